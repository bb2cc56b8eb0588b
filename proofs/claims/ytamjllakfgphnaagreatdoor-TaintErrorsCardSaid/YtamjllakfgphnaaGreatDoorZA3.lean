/- Walks and plain facts, packed: GV, N1, GO, W70, W41, W71, W72, W73, GR. -/
import Derived.Laws.BytesArg
import Derived.Laws.MakeOwn
import Derived.MapKept
import Derived.ChangeMaps5
import Derived.WideKeyRuns
import Derived.Maps.OwnOps
import Derived.Maps.AppendAt
import Derived.RangeFuncNested
import Derived.RangeFuncBound
import Derived.RangeFuncBox
import Derived.RangeFuncCalls
import Derived.RangeFuncLeaves
import Derived.Shelf.Abstract
import Derived.Deep.DeepCutAuto
import Derived.Deep.CutBlock
import Derived.Laws.Strings
import Derived.RangeFuncKeeps
import Derived.OwnWalkIn
import Derived.TacticsInMore
import Derived.LoopNIn
import Derived.LoopIn
import Derived.Test.YtamjllakfgphnaaGreatDoorZA2
namespace Go.Proofs.YtamjllakfgphnaaGreatDoor
open Go.RowKit
set_option linter.unusedSimpArgs false
set_option linter.unusedVariables false
end Go.Proofs.YtamjllakfgphnaaGreatDoor
namespace Go.Proofs.YtamjllakfgphnaaGreatDoor
open Go.RowKit
set_option linter.unusedSimpArgs false
set_option linter.unusedVariables false
def acC (a : Ac) (u : Value × Value) : List Value := [.int .i64 a.key.tick, .int .i64 a.key.cls, .int .i64 a.key.num, .string (bs a.key.lin), u.1, u.2]
theorem acC_len (a : Ac) (u : Value × Value) : (acC a u).length = 6 := rfl
def NAc (w : World) (u : Value × Value) (a : Ac) : Prop := RdCh w u.1 a.reads ∧ RdCh w u.2 a.writes
theorem NAc.keep {L : List TypeId} {w w' : World} (k : Kept L w w') (he : L.contains 105 = false) {u : Value × Value} {a : Ac} (h : NAc w u a) : NAc w' u a := ⟨RdP.keep h.1 k he, RdP.keep h.2 k he⟩
theorem NAc.next {w w' : World} (hb : Below w.heap.size w w') {u : Value × Value} {a : Ac} (h : NAc w u a) : NAc w' u a := ⟨RdP.next h.1 hb, RdP.next h.2 hb⟩
abbrev OwnAc (w : World) (base : Nat) (v : Value) (l : List Ac) : Prop := RowOwn 77 6 acC NAc w base v l
abbrev RdAc (w : World) (v : Value) (l : List Ac) : Prop := RowRd 77 acC NAc w v l
theorem OwnAc.next {w w' : World} {base : Nat} {v : Value} {l : List Ac} (h : OwnAc w base v l) (hb : Below w.heap.size w w') : OwnAc w' base v l := by
  obtain ⟨vs, h1, h2⟩ := h
  exact ⟨vs, h1.imp fun _ _ => NAc.next hb, own_next h2 hb⟩
theorem RdAc.next {w w' : World} {v : Value} {l : List Ac} (h : RdAc w v l) (hb : Below w.heap.size w w') : RdAc w' v l := RowRd.next h hb fun _ _ => NAc.next hb
theorem RdAc.piece {w : World} {A : Option Addr} {n c : Nat} {l : List Ac} (h : RdAc w (.slice A n c) l) {k : Nat} (hk : k < l.length) : ∃ b o u1 u2, A = some ⟨b, o, none⟩ ∧ b < w.heap.size ∧ RdCh w u1 l[k].reads ∧ RdCh w u2 l[k].writes ∧
    w.cell? ⟨b, o + k * 6, none⟩ = some (.int .i64 l[k].key.tick) ∧ w.cell? ⟨b, o + k * 6 + 1, none⟩ = some (.int .i64 l[k].key.cls) ∧ w.cell? ⟨b, o + k * 6 + 2, none⟩ = some (.int .i64 l[k].key.num) ∧ w.cell? ⟨b, o + k * 6 + 3, none⟩ = some (.string (bs l[k].key.lin)) ∧ w.cell? ⟨b, o + k * 6 + 4, none⟩ = some u1 ∧ w.cell? ⟨b, o + k * 6 + 5, none⟩ = some u2 := by
  obtain ⟨b, o, c', u, hv, _, hb, hu, hcell⟩ := RowRd.at_ h acC_len (List.getElem?_eq_getElem hk)
  injection hv with hA _ _
  exact ⟨b, o, u.1, u.2, hA, hb, hu.1, hu.2, hcell 0 _ rfl, hcell 1 _ rfl, hcell 2 _ rfl, hcell 3 _ rfl, hcell 4 _ rfl, hcell 5 _ rfl⟩
end Go.Proofs.YtamjllakfgphnaaGreatDoor
namespace Go.Proofs.YtamjllakfgphnaaGreatDoor
open Go.RowKit
set_option linter.unusedSimpArgs false
set_option linter.unusedVariables false
theorem own_empty (w : World) (base e size : Nat) (hb : base ≤ w.heap.size) : (w.alloc (.cells #[] e)).ownsRow base e size (.slice (some ⟨w.heap.size, 0, none⟩) 0 0) 0 [] :=
  ⟨by simp, .inr ⟨w.heap.size, 0, #[], rfl, hb, heap_alloc_new w _, Nat.le_refl _, by unfold maxLen; omega, by simp, by simp⟩⟩
def CloP (e : TypeId) (s n : Nat) (xs : List Value) (w : World) (en : Ending) (w' : World) : Prop := ∃ v', en = .returned v' ∧ w'.ownsRow w.heap.size e s v' n xs ∧ Below w.heap.size w w'
theorem infoNm : (Tryz.prog.info? 26).map (fun i => (i.zero, i.size, i.bytes)) = some (some (.agg #[.int .i64 0, .string ⟨#[]⟩, .int .i64 0, .int .i64 0, .string ⟨#[]⟩]), 5, 56) := by kernel_rfl
set_option maxRecDepth 100000 in
theorem cloneNm {w : World} {v : Value} {n : Nat} {xs : List Value} (h : Rd 26 w v n xs) (hl : xs.length = n * 5) (h1 : ∀ u ∈ xs, u.oneCell' = true) (hn : n ≤ 100000) : Calls Tryz.prog 96 #[v] w (CloP 26 5 n xs w) := by
  obtain ⟨i0, hi, hz0, hz1, hz2⟩ := info_parts infoNm
  obtain ⟨A, c, rfl, hc⟩ := h.form
  have H := Lib.hid h
  have HL := Lib.hid hl
  have H1 := Lib.hid h1
  cases A with
  | none =>
    obtain ⟨rfl, hx⟩ : n = 0 ∧ xs = [] := by
      obtain ⟨A', c', hv, _, _, h0 | ⟨b, o, cs, fr, hA, _⟩⟩ := h
      · exact h0
      · injection hv with hv; rw [hA] at hv; cases hv
    subst hx
    clear h hl h1
    have he := fun w : World => Lib.run_eql_slice_nil (P := Tryz.prog) (w := w) 94
    go_enter Tryz.func96, Tryz.ntmps96
    go_wp2
    go_ret
    exact ⟨_, rfl, World.ownsRow_nil _ _ _ _, Below.refl _ _⟩
  | some ad =>
    have HE := Lib.hid (own_empty w w.heap.size 26 5 (Nat.le_refl _))
    have HR := Lib.hid (H.out.next ((Below.refl w.heap.size w).alloc (Nat.le_refl _) (.cells #[] 26)))
    clear h hl h1
    have he := Lib.run_eql_slice_nil (P := Tryz.prog) w 94 26 (some ad) n c 0 0 Tryz.underlying94
    simp only [Option.isNone] at he
    go_enter Tryz.func96, Tryz.ntmps96
    go_wp2_with (at_builtin; refine wpList_append_rd _ rfl _ _ _ rfl w.heap.size 26 i0 _ 5 56 Tryz.underlying94 hi hz0 hz1 hz2 rfl (by omega) _ 0 [] (by rfl) HE.out _ n xs (by rfl) HR.out HL.out H1.out (by unfold maxLen; omega) (by omega) (by simp) ?_; intro ao cap w2 hown2 hgrow2; simp only [Nat.zero_add, List.nil_append] at hown2; have HG := Lib.hid hgrow2; have HO := Lib.hid hown2; clear hown2 hgrow2)
    go_ret
    exact ⟨_, rfl, by simpa using HO.out, below_own ((Below.refl w.heap.size w).alloc (Nat.le_refl _) (.cells #[] 26)) HE.out HG.out (Nat.le_refl _) (by simp)⟩
theorem infoCh : (Tryz.prog.info? 105).map (fun i => (i.zero, i.size, i.bytes)) = some (some (.agg #[.int .i64 0, .string ⟨#[]⟩, .int .i64 0, .int .i64 0, .string ⟨#[]⟩, .string ⟨#[]⟩, .bool false]), 7, 80) := by kernel_rfl
set_option maxRecDepth 100000 in
theorem cloneCh {w : World} {v : Value} {n : Nat} {xs : List Value} (h : Rd 105 w v n xs) (hl : xs.length = n * 7) (h1 : ∀ u ∈ xs, u.oneCell' = true) (hn : n ≤ 100000) : Calls Tryz.prog 127 #[v] w (CloP 105 7 n xs w) := by
  obtain ⟨i0, hi, hz0, hz1, hz2⟩ := info_parts infoCh
  obtain ⟨A, c, rfl, hc⟩ := h.form
  have H := Lib.hid h
  have HL := Lib.hid hl
  have H1 := Lib.hid h1
  cases A with
  | none =>
    obtain ⟨rfl, hx⟩ : n = 0 ∧ xs = [] := by
      obtain ⟨A', c', hv, _, _, h0 | ⟨b, o, cs, fr, hA, _⟩⟩ := h
      · exact h0
      · injection hv with hv; rw [hA] at hv; cases hv
    subst hx
    clear h hl h1
    have he := fun w : World => Lib.run_eql_slice_nil (P := Tryz.prog) (w := w) 75
    go_enter Tryz.func127, Tryz.ntmps127
    go_wp2
    go_ret
    exact ⟨_, rfl, World.ownsRow_nil _ _ _ _, Below.refl _ _⟩
  | some ad =>
    have HE := Lib.hid (own_empty w w.heap.size 105 7 (Nat.le_refl _))
    have HR := Lib.hid (H.out.next ((Below.refl w.heap.size w).alloc (Nat.le_refl _) (.cells #[] 105)))
    clear h hl h1
    have he := Lib.run_eql_slice_nil (P := Tryz.prog) w 75 105 (some ad) n c 0 0 Tryz.underlying75
    simp only [Option.isNone] at he
    go_enter Tryz.func127, Tryz.ntmps127
    go_wp2_with (at_builtin; refine wpList_append_rd _ rfl _ _ _ rfl w.heap.size 105 i0 _ 7 80 Tryz.underlying75 hi hz0 hz1 hz2 rfl (by omega) _ 0 [] (by rfl) HE.out _ n xs (by rfl) HR.out HL.out H1.out (by unfold maxLen; omega) (by omega) (by simp) ?_; intro ao cap w2 hown2 hgrow2; simp only [Nat.zero_add, List.nil_append] at hown2; have HG := Lib.hid hgrow2; have HO := Lib.hid hown2; clear hown2 hgrow2)
    go_ret
    exact ⟨_, rfl, by simpa using HO.out, below_own ((Below.refl w.heap.size w).alloc (Nat.le_refl _) (.cells #[] 105)) HE.out HG.out (Nat.le_refl _) (by simp)⟩
end Go.Proofs.YtamjllakfgphnaaGreatDoor
namespace Go.Proofs.YtamjllakfgphnaaGreatDoor
open Go.RowKit Go.MapKept Go.ChangeMaps
set_option linter.unusedSimpArgs false
set_option linter.unusedVariables false
section
variable {κ ν : Type} [DecidableEq κ]
def posM (n : κ) : List (κ × ν) → Nat → Option (Nat × ν)
  | [], _ => none
  | (a, v) :: l, i => if a = n then some (i, v) else posM n l (i + 1)
def lookM (n : κ) : List (κ × ν) → Option ν
  | [] => none
  | (a, v) :: l => if a = n then some v else lookM n l
def putM (n : κ) (x : ν) : List (κ × ν) → List (κ × ν)
  | [] => [(n, x)]
  | (a, v) :: l => if a = n then (n, x) :: l else (a, v) :: putM n x l
theorem posM_look (n : κ) : ∀ (l : List (κ × ν)) (i : Nat), (posM n l i).map Prod.snd = lookM n l
  | [], _ => rfl
  | (a, v) :: l, i => by
    unfold posM lookM
    split
    · rfl
    · exact posM_look n l (i + 1)
theorem posM_none {n : κ} (x : ν) : ∀ {l : List (κ × ν)} {i : Nat}, posM n l i = none → (∀ p ∈ l, p.1 ≠ n) ∧ putM n x l = l ++ [(n, x)]
  | [], _, _ => ⟨by simp, rfl⟩
  | (a, v) :: l, i, h => by
    unfold posM at h
    split at h
    · cases h
    · rename_i ha
      obtain ⟨h1, h2⟩ := posM_none x h
      refine ⟨fun p hp => ?_, ?_⟩
      · rcases List.mem_cons.1 hp with rfl | hp
        · exact ha
        · exact h1 p hp
      · unfold putM
        rw [if_neg ha, h2]; rfl
theorem posM_some {n : κ} (x : ν) : ∀ {l : List (κ × ν)} {i j : Nat} {u : ν}, posM n l i = some (j, u) → ∃ k, j = i + k ∧ l[k]? = some (n, u) ∧ putM n x l = l.set k (n, x)
  | [], _, _, _, h => by simp [posM] at h
  | (a, v) :: l, i, j, u, h => by
    unfold posM at h
    split at h
    · rename_i ha
      subst ha
      injection h with h
      injection h with h1 h2
      subst h1 h2
      exact ⟨0, rfl, rfl, by simp [putM]⟩
    · rename_i ha
      obtain ⟨k, h1, h2, h3⟩ := posM_some x h
      exact ⟨k + 1, by omega, by simpa using h2, by unfold putM; rw [if_neg ha, h3]; rfl⟩
theorem look_put {n m : κ} {x : ν} : ∀ {l : List (κ × ν)}, lookM m (putM n x l) = if n = m then some x else lookM m l
  | [] => by simp [putM, lookM]
  | (a, v) :: l => by
    unfold putM
    by_cases ha : a = n
    · subst ha
      rw [if_pos rfl]
      by_cases hm : a = m <;> simp [lookM, hm]
    · rw [if_neg ha]
      by_cases hm : a = m
      · subst hm
        simp [lookM, Ne.symm ha]
      · simp only [lookM, if_neg hm]
        exact look_put
theorem look_mem {n : κ} {x : ν} : ∀ {l : List (κ × ν)}, lookM n l = some x → (n, x) ∈ l
  | [], h => by simp [lookM] at h
  | (a, v) :: l, h => by
    unfold lookM at h
    split at h
    · rename_i ha
      injection h with h
      subst ha h
      exact List.mem_cons_self ..
    · exact List.mem_cons_of_mem _ (look_mem h)
theorem mem_put {n : κ} {x : ν} {p : κ × ν} : ∀ {l : List (κ × ν)}, (l.Pairwise fun p q => p.1 ≠ q.1) → p ∈ putM n x l → p = (n, x) ∨ (p ∈ l ∧ p.1 ≠ n)
  | [], _, h => by simp [putM] at h; exact .inl h
  | (a, v) :: l, hp, h => by
    obtain ⟨hp1, hp2⟩ := List.pairwise_cons.1 hp
    unfold putM at h
    split at h
    · rename_i ha
      subst ha
      rcases List.mem_cons.1 h with h | h
      · exact .inl h
      · exact .inr ⟨List.mem_cons_of_mem _ h, fun e => hp1 p h e.symm⟩
    · rename_i ha
      rcases List.mem_cons.1 h with rfl | h
      · exact .inr ⟨List.mem_cons_self .., ha⟩
      · rcases mem_put hp2 h with h | ⟨h, h2⟩
        · exact .inl h
        · exact .inr ⟨List.mem_cons_of_mem _ h, h2⟩
theorem put_pair {n : κ} {x : ν} {R : ν → ν → Prop} : ∀ {l : List (κ × ν)}, (l.Pairwise fun p q => p.1 ≠ q.1 ∧ R p.2 q.2) → (∀ p ∈ l, p.1 ≠ n → R p.2 x ∧ R x p.2) → (putM n x l).Pairwise fun p q => p.1 ≠ q.1 ∧ R p.2 q.2
  | [], _, _ => by simp [putM]
  | (a, v) :: l, hp, h => by
    obtain ⟨hp1, hp2⟩ := List.pairwise_cons.1 hp
    have hpn : l.Pairwise fun p q => p.1 ≠ q.1 := hp2.imp fun h => h.1
    unfold putM
    split
    · rename_i ha
      subst ha
      refine List.pairwise_cons.2 ⟨fun q hq => ⟨(hp1 q hq).1, (h q (List.mem_cons_of_mem _ hq) (fun e => (hp1 q hq).1 e.symm)).2⟩, hp2⟩
    · rename_i ha
      refine List.pairwise_cons.2 ⟨fun q hq => ?_, put_pair hp2 fun p hp' hne => h p (List.mem_cons_of_mem _ hp') hne⟩
      rcases mem_put hpn hq with rfl | ⟨hq, _⟩
      · exact ⟨ha, (h (a, v) (List.mem_cons_self ..) ha).1⟩
      · exact hp1 q hq
end
def MapAt (w : World) (b : Nat) (ents : List (Nm × Value)) : Prop := ∃ es clock, w.heap[b]? = some (.map es clock) ∧ es.toList.map (fun e => (e.key, e.val)) = ents.map (fun p => (nmV p.1, p.2)) ∧ Stamped es clock
theorem MapAt.lt {w : World} {b : Nat} {ents : List (Nm × Value)} (h : MapAt w b ents) : b < w.heap.size := by
  obtain ⟨es, c, hb, _⟩ := h
  exact (Array.getElem?_eq_some_iff.1 hb).1
theorem MapAt.same {w w' : World} {b : Nat} {ents : List (Nm × Value)} (h : MapAt w b ents) (e : w'.heap[b]? = w.heap[b]?) : MapAt w' b ents := by
  obtain ⟨es, c, hb, h2⟩ := h
  exact ⟨es, c, e.trans hb, h2⟩
theorem MapAt.next {w w' : World} {b : Nat} {ents : List (Nm × Value)} (h : MapAt w b ents) (hb : Below w.heap.size w w') : MapAt w' b ents := h.same (hb.block b h.lt)
theorem MapAt.new (w : World) : MapAt (w.alloc (.map #[] 0)) w.heap.size [] := ⟨#[], 0, (MapKept.heap_alloc w _).1, rfl, stamped_empty 0⟩
theorem nm_inj {a b : Nm} (h : nmV a = nmV b) : a = b := by
  obtain ⟨k, o, n, i, t⟩ := a
  obtain ⟨k2, o2, n2, i2, t2⟩ := b
  simp only [nmV, nmA, Value.agg.injEq, Array.mk.injEq, List.cons.injEq, Value.int.injEq, Value.string.injEq, and_true, true_and] at h
  obtain ⟨h1, h2, h3, h4, h5⟩ := h
  rw [h1, bs_inj h2, h3, h4, bs_inj h5]
theorem chk_nm (em : Bool) (n : Nm) (w : World) : (Instr.checkKey em 10000 26 (nmV n)).run Tryz.prog w = .ok () w := by
  obtain ⟨k, o, n, i, t⟩ := n
  kernel_rfl
theorem eq_nm (a b : Nm) (w : World) : (Op.equal 26 (nmV a) (nmV b)).run Tryz.prog w = .ok (decide (b = a)) w := by
  obtain ⟨k, o, n, i, t⟩ := a
  obtain ⟨k2, o2, n2, i2, t2⟩ := b
  unfold nmV nmA
  show (Op.equalIn 10000 _ _ _).run Tryz.prog w = _
  rw [eqNm]
  simp [bs_tl, bool_dec, beq_dec, Bool.and_assoc, eq_comm]
theorem same_nm (a : Nm) : Instr.sameBits 10000 (nmV a) (nmV a) = true := by
  have hb : ∀ b : ByteArray, (b == b) = true := fun b => (bytes_beq b b).2 rfl
  unfold nmV nmA
  simp [Instr.sameBits, hb]
theorem find_nm (n : Nm) (w : World) : ∀ (es : List MapEntry) (ents : List (Nm × Value)) (i : Nat), es.map (fun e => (e.key, e.val)) = ents.map (fun p => (nmV p.1, p.2)) → (Instr.findAsking 26 (nmV n) es i).run Tryz.prog w = .ok (posM n ents i) w
  | [], [], i, _ => by simp [Instr.findAsking, posM]
  | [], p :: l, i, h => by simp at h
  | e :: es, [], i, h => by simp at h
  | e :: es, (a, v) :: l, i, h => by
    simp only [List.map_cons, List.cons.injEq, Prod.mk.injEq] at h
    obtain ⟨⟨h1, h2⟩, h3⟩ := h
    simp only [Instr.findAsking, Sem.run_bind, h1, eq_nm, Result.andThen_ok]
    unfold posM
    by_cases ha : a = n
    · simp [ha, h2]
    · simp only [ha, decide_false, Bool.false_eq_true, if_false]
      exact find_nm n w es l (i + 1) h3
theorem key_nm (n : Nm) (w : World) {es : List MapEntry} {ents : List (Nm × Value)} (h : es.map (fun e => (e.key, e.val)) = ents.map (fun p => (nmV p.1, p.2))) : (Instr.findKey 26 (nmV n) es).run Tryz.prog w = .ok (posM n ents 0) w := by
  exact (run_findKey_eq (P := Tryz.prog) (w := w) (by rw [Tryz.underlying26]) (nmV n) es).trans (find_nm n w es ents 0 h)
theorem map_look {w : World} {b : Nat} {ents : List (Nm × Value)} (h : MapAt w b ents) (n : Nm) {t E : TypeId} (ht : Tryz.prog.underlying t = some (.map 26 E)) {z : Value} (hz : (zeroValue E).run Tryz.prog w = .ok z w) :
    (Instr.lookup t (.map (some b)) (nmV n) false).run Tryz.prog w = .ok ((lookM n ents).getD z) w := by
  obtain ⟨es, c, hb, he, hs⟩ := h
  rw [← posM_look n ents 0]
  cases hp : posM n ents 0 with
  | none => simp [Instr.lookup, run_underlying ht, MapKept.run_getObj_map hb, chk_nm, key_nm n w he, hp, hz, Result.andThen]
  | some q => simp [Instr.lookup, run_underlying ht, MapKept.run_getObj_map hb, chk_nm, key_nm n w he, hp, hz, Result.andThen]
theorem find_born {es : Array MapEntry} (hn : (es.toList.map (·.born)).Nodup) {j : Nat} {e0 : MapEntry} (h : es[j]? = some e0) : es.findIdx? (fun e => (e.born : Int) == (e0.born : Int)) = some j := by
  obtain ⟨hj, hje⟩ := Array.getElem?_eq_some_iff.1 h
  rw [Array.findIdx?_eq_some_iff_getElem]
  refine ⟨hj, by simp [hje], fun i hi => ?_⟩
  have hil : i < es.size := by omega
  have hp := List.pairwise_iff_getElem.1 hn i j (by simpa using hil) (by simpa using hj) hi
  simp only [List.getElem_map, Array.getElem_toList, hje] at hp
  simp only [beq_iff_eq]
  omega
theorem grown_setBlock {w : World} {b : Nat} {es : Array MapEntry} {c : Nat} (hb : w.heap[b]? = some (.map es c)) (o : Obj) : w.grownBy (setBlock w b o) (some b) :=
  ⟨rfl, rfl, rfl, by simp [setBlock], fun i _ hi => heap_setBlock_other hb _ (fun e1 => hi (by rw [e1]))⟩
theorem map_entry {w : World} {b : Nat} {ents : List (Nm × Value)} (h : MapAt w b ents) (n : Nm) {t E : TypeId} (ht : Tryz.prog.underlying t = some (.map 26 E)) {z : Value} (hz : (zeroValue E).run Tryz.prog w = .ok z w) :
    ∃ (w' : World) (st : Nat), (Instr.mapEntry t (.map (some b)) (nmV n)).run Tryz.prog w = .ok (.tuple #[(lookM n ents).getD z, .int .i64 st]) w' ∧ w.grownBy w' (some b) ∧ (∃ es c, w'.heap[b]? = some (.map es c)) ∧
      ∀ (w2 : World) (x : Value), w2.heap[b]? = w'.heap[b]? → ∃ w3, (Instr.entryStore t (.map (some b)) (.int .i64 st) x).run Tryz.prog w2 = .ok () w3 ∧ MapAt w3 b (putM n x ents) ∧ w2.grownBy w3 (some b) := by
  obtain ⟨es, c, hb, he, hs⟩ := h
  have hlen : es.size = ents.length := by have := congrArg List.length he; simpa using this
  rw [← posM_look n ents 0]
  cases hp : posM n ents 0 with
  | none =>
    obtain ⟨h1, _⟩ := posM_none (.nilFunc : Value) hp
    have hs2 : Stamped (es.push { key := nmV n, val := z, born := c }) (c + 1) := stamped_push hs fun x hx e => by
      have hm : (x.key, x.val) ∈ es.toList.map fun e => (e.key, e.val) := List.mem_map.2 ⟨x, hx, rfl⟩
      rw [he] at hm
      obtain ⟨p, hp1, hp2⟩ := List.mem_map.1 hm
      injection hp2 with hp2 _
      exact h1 p hp1 (nm_inj (hp2.trans e))
    have hat : (es.push { key := nmV n, val := z, born := c })[es.size]? = some { key := nmV n, val := z, born := c } := by simp
    refine ⟨setBlock w b (.map (es.push { key := nmV n, val := z, born := c }) (c + 1)), c, ?_, grown_setBlock hb _, ⟨_, _, heap_setBlock_same hb _⟩, fun w2 x h2 => ?_⟩
    · simp [Instr.mapEntry, run_underlying ht, MapKept.run_getObj_map hb, chk_nm, key_nm n w he, hp, hz, MapKept.run_setObj_map _ hb, Result.andThen, setBlock, goInt]
    · rw [heap_setBlock_same hb] at h2
      have hfind := find_born hs2.2.1 hat
      refine ⟨setBlock w2 b (.map ((es.push { key := nmV n, val := z, born := c }).modify es.size fun e => { e with val := x }) (c + 1)), ?_, ⟨_, _, heap_setBlock_same h2 _, ?_, ?_⟩, grown_setBlock h2 _⟩
      · simp only at hfind
        simp [Instr.entryStore, MapKept.run_getObj_map h2, asInt, asIntOf, hfind, MapKept.run_setObj_map _ h2, Result.andThen, setBlock]
      · rw [(posM_none x hp).2]
        apply List.ext_getElem?
        intro i
        have e1 : (es.toList.map fun e => (e.key, e.val))[i]? = (ents.map fun p => (nmV p.1, p.2))[i]? := by rw [he]
        simp only [List.getElem?_map, Array.getElem?_toList, Array.getElem?_modify, List.getElem?_append, Array.getElem?_push, List.map_append] at e1 ⊢
        by_cases hij : es.size = i
        · subst hij
          simp [hlen]
        · rw [if_neg hij, if_neg (fun e => hij e.symm)]
          by_cases hlt : i < es.size
          · rw [if_pos (by rw [List.length_map]; omega)]
            exact e1
          · rw [if_neg (by rw [List.length_map]; omega), Array.getElem?_eq_none (by omega), List.getElem?_eq_none (by simp; omega)]
            rfl
      · exact stamped_modify hs2 _ _ (fun _ _ => rfl) (fun _ _ _ => rfl)
  | some q =>
    obtain ⟨j, u⟩ := q
    obtain ⟨k, hj, h1, _⟩ := posM_some (.nilFunc : Value) hp
    rw [Nat.zero_add] at hj
    subst hj
    have hk : j < es.size := by
      rw [hlen]
      exact (List.getElem?_eq_some_iff.1 h1).1
    have hg : es[j]? = some es[j] := Array.getElem?_eq_getElem hk
    have hkv : es[j].key = nmV n ∧ es[j].val = u := by
      have e1 : (es.toList.map fun e => (e.key, e.val))[j]? = some (es[j].key, es[j].val) := by simp [hg]
      rw [he, List.getElem?_map, h1] at e1
      injection e1 with e1
      injection e1 with e1 e2
      exact ⟨e1.symm, e2.symm⟩
    obtain ⟨hkey, hval⟩ := hkv
    have hs2 : Stamped (es.modify j fun e => { e with key := nmV n }) c := stamped_modify hs _ _ (fun _ _ => rfl) fun e _ hej => by
      rw [hg] at hej
      cases hej
      exact hkey.symm
    have hat : (es.modify j fun e => { e with key := nmV n })[j]? = some { es[j] with key := nmV n } := by simp [Array.getElem?_modify, hg]
    refine ⟨setBlock w b (.map (es.modify j fun e => { e with key := nmV n }) c), es[j].born, ?_, grown_setBlock hb _, ⟨_, _, heap_setBlock_same hb _⟩, fun w2 x h2 => ?_⟩
    · have hst : (Instr.keyThatStays (nmV n) (nmV n)).run Tryz.prog w = .ok (nmV n) w := by simp [Instr.keyThatStays, same_nm]
      simp [Instr.mapEntry, run_underlying ht, MapKept.run_getObj_map hb, chk_nm, key_nm n w he, hp, hg, hkey, hst, MapKept.run_setObj_map _ hb, Result.andThen, setBlock, goInt]
    · rw [heap_setBlock_same hb] at h2
      have hfind := find_born hs2.2.1 hat
      refine ⟨setBlock w2 b (.map ((es.modify j fun e => { e with key := nmV n }).modify j fun e => { e with val := x }) c), ?_, ⟨_, _, heap_setBlock_same h2 _, ?_, ?_⟩, grown_setBlock h2 _⟩
      · simp only at hfind
        simp [Instr.entryStore, MapKept.run_getObj_map h2, asInt, asIntOf, hfind, MapKept.run_setObj_map _ h2, Result.andThen, setBlock]
      · obtain ⟨k2, hj2, _, h3⟩ := posM_some x hp
        rw [Nat.zero_add] at hj2
        subst hj2
        rw [h3]
        apply List.ext_getElem?
        intro i
        have e1 : (es.toList.map fun e => (e.key, e.val))[i]? = (ents.map fun p => (nmV p.1, p.2))[i]? := by rw [he]
        simp only [List.getElem?_map, Array.getElem?_toList, Array.getElem?_modify, List.getElem?_set] at e1 ⊢
        by_cases hij : j = i
        · subst hij
          rw [hg]
          simp [← hlen, hk]
        · simp only [if_neg hij]
          exact e1
      · exact stamped_modify hs2 _ _ (fun _ _ => rfl) (fun _ _ _ => rfl)
end Go.Proofs.YtamjllakfgphnaaGreatDoor
namespace Go.Proofs.YtamjllakfgphnaaGreatDoor
open Go.RowKit Go.MapKept Go.ChangeMaps
set_option linter.unusedSimpArgs false
set_option linter.unusedVariables false
def AtOr (w : World) (v v' : Value) : Prop := v'.ownBlock = v.ownBlock ∨ v'.ownBlock = some w.heap.size
theorem run_append_w {P : Program} (w : World) (base : Nat) (t ty e : TypeId) (i : TypeInfo) (z : Value) (size bytes : Nat) (ht : P.underlying t = some (.slice e)) (hi : P.info? e = some i) (hz : i.zero = some z)
    (hsize : i.size = size) (hby : i.bytes = bytes) (hzs : z.cells.size = size) (hsz : 0 < size)
    (v : Value) (n : Nat) (xs : List Value) (hown : w.ownsRow base e size v n xs) (x : Value) (m : Nat) (news : List Value) (hr : Rd e w x m news) (hm : 0 < m) (hl : news.length = m * size) (h1 : ∀ u ∈ news, u.oneCell' = true)
    (h63 : n + m ≤ maxLen) (hbytes : (n + m) * bytes ≤ 140737488355328) (hbase : base ≤ w.heap.size) :
    ∃ v' w', (Builtin.append_ #[t, t] ty #[v, x]).run P w = .ok v' w' ∧ w'.ownsRow base e size v' (n + m) (xs ++ news) ∧ w.grownBy w' v.ownBlock ∧ AtOr w v v' := by
  obtain ⟨b, o, c, rfl, hmc, hcm, hb, hcell⟩ := Rd.at_ hr hm
  obtain ⟨v', w', h2, h3, h4, h5, h6⟩ := run_append_own_at (P := P) w base t ty e i z size bytes ht hi hz hsize hby hzs hsz v n xs hown ⟨b, o, none⟩ m c news hl (fun j u hj => by rw [add_off]; exact hcell j u hj) h1 h63 hbytes hbase
  exact ⟨v', w', h2, h3, h4, h6⟩
theorem wp_append_w {P : Program} (w : World) {o : Oper} {a : Go.Act} {K : Go.Act → World → Prop} {Q : Exit → Go.Act → World → Prop} (s x : Operand) (t : TypeId)
    (ho : o.op = .call { callee := .builtin .append, args := #[s, x], argTypes := #[t, t] })
    (base : Nat) (e : TypeId) (i : TypeInfo) (z : Value) (size bytes : Nat) (ht : P.underlying t = some (.slice e)) (hi : P.info? e = some i) (hz : i.zero = some z)
    (hsize : i.size = size) (hby : i.bytes = bytes) (hzs : z.cells.size = size) (hsz : 0 < size)
    (v : Value) (n : Nat) (xs : List Value) (hs : a.eval s = v) (hown : w.ownsRow base e size v n xs)
    (xv : Value) (m : Nat) (news : List Value) (hx : a.eval x = xv) (hr : Rd e w xv m news) (hm : 0 < m) (hl : news.length = m * size) (h1 : ∀ u ∈ news, u.oneCell' = true)
    (h63 : n + m ≤ maxLen) (hbytes : (n + m) * bytes ≤ 140737488355328) (hbase : base ≤ w.heap.size)
    (h : ∀ v' w', w'.ownsRow base e size v' (n + m) (xs ++ news) → w.grownBy w' v.ownBlock → AtOr w v v' → K (a.put o.dst v') w') : o.wp P a w K Q := by
  obtain ⟨v', w', hrun, h2, h3, h4⟩ := run_append_w (P := P) w base t o.type e i z size bytes ht hi hz hsize hby hzs hsz v n xs hown xv m news hr hm hl h1 h63 hbytes hbase
  unfold Oper.wp execOp
  simp only [ho, resolve, invoke, builtin, Sem.run_bind, Sem.run_pure, Result.andThen_ok, List.map_toArray, List.map_cons, List.map_nil, hs, hx, hrun]
  exact h v' w' h2 h3 h4
theorem wpList_append_w {P : Program} (w : World) {ops : Array Oper} {rest : List Oper} {o : Oper} {a : Go.Act} {Q : Exit → Go.Act → World → Prop} (hgd : o.guard = none) (s x : Operand) (t : TypeId)
    (ho : o.op = .call { callee := .builtin .append, args := #[s, x], argTypes := #[t, t] })
    (base : Nat) (e : TypeId) (i : TypeInfo) (z : Value) (size bytes : Nat) (ht : P.underlying t = some (.slice e)) (hi : P.info? e = some i) (hz : i.zero = some z)
    (hsize : i.size = size) (hby : i.bytes = bytes) (hzs : z.cells.size = size) (hsz : 0 < size)
    (v : Value) (n : Nat) (xs : List Value) (hs : a.eval s = v) (hown : w.ownsRow base e size v n xs)
    (xv : Value) (m : Nat) (news : List Value) (hx : a.eval x = xv) (hr : Rd e w xv m news) (hm : 0 < m) (hl : news.length = m * size) (h1 : ∀ u ∈ news, u.oneCell' = true)
    (h63 : n + m ≤ maxLen) (hbytes : (n + m) * bytes ≤ 140737488355328) (hbase : base ≤ w.heap.size)
    (h : ∀ v' w', w'.ownsRow base e size v' (n + m) (xs ++ news) → w.grownBy w' v.ownBlock → AtOr w v v' → wpList P ops Q rest (a.put o.dst v') w') : wpList P ops Q (o :: rest) a w :=
  wpList_plain hgd fun _ hK => wp_append_w w s x t ho base e i z size bytes ht hi hz hsize hby hzs hsz v n xs hs hown xv m news hx hr hm hl h1 h63 hbytes hbase fun v' w' h2 h3 h4 => hK _ _ (h v' w' h2 h3 h4)
theorem step_append_w {P : Program} (w : World) {ops : Array Oper} {o : Oper} {a : Go.Act} {K : Go.Act → World → Prop} {Q : Exit → Go.Act → World → Prop} {E : Prop} (hgd : o.guard = none) (s x : Operand) (t : TypeId)
    (ho : o.op = .call { callee := .builtin .append, args := #[s, x], argTypes := #[t, t] })
    (base : Nat) (e : TypeId) (i : TypeInfo) (z : Value) (size bytes : Nat) (ht : P.underlying t = some (.slice e)) (hi : P.info? e = some i) (hz : i.zero = some z)
    (hsize : i.size = size) (hby : i.bytes = bytes) (hzs : z.cells.size = size) (hsz : 0 < size)
    (v : Value) (n : Nat) (xs : List Value) (hs : a.eval s = v) (hown : w.ownsRow base e size v n xs)
    (xv : Value) (m : Nat) (news : List Value) (hx : a.eval x = xv) (hr : Rd e w xv m news) (hm : 0 < m) (hl : news.length = m * size) (h1 : ∀ u ∈ news, u.oneCell' = true)
    (h63 : n + m ≤ maxLen) (hbytes : (n + m) * bytes ≤ 140737488355328) (hbase : base ≤ w.heap.size)
    (h : ∀ v' w', w'.ownsRow base e size v' (n + m) (xs ++ news) → w.grownBy w' v.ownBlock → AtOr w v v' → K (a.put o.dst v') w') :
    if Region.wanted o (yielded ops a.tmps) = true then Oper.wp P o a w K Q else E := by
  have hw : Region.wanted o (yielded ops a.tmps) = true := by simp [Region.wanted, hgd]
  rw [if_pos hw]
  exact wp_append_w w s x t ho base e i z size bytes ht hi hz hsize hby hzs hsz v n xs hs hown xv m news hx hr hm hl h1 h63 hbytes hbase h
theorem step_look_nm (w : World) {ops : Array Oper} {o : Oper} {a : Go.Act} {K : Go.Act → World → Prop} {Q : Exit → Go.Act → World → Prop} {X : Prop} (hg : o.guard = none) (m x : Operand) (t : TypeId) (hop : o.op = Op.lookup t m x false) {E : TypeId}
    (ht : Tryz.prog.underlying t = some (.map 26 E)) {z : Value} (hz : (zeroValue E).run Tryz.prog w = .ok z w) (b : Nat) (ents : List (Nm × Value)) (hm : a.eval m = .map (some b)) (h : MapAt w b ents) (n : Nm) (hx : a.eval x = nmV n)
    (hK : K (a.put o.dst ((lookM n ents).getD z)) w) : if Region.wanted o (yielded ops a.tmps) = true then Oper.wp Tryz.prog o a w K Q else X := by
  have hw : Region.wanted o (yielded ops a.tmps) = true := by simp [Region.wanted, hg]
  rw [if_pos hw]
  have hrun := map_look h n ht hz
  unfold Oper.wp
  simp [execOp, hop, hm, hx, hrun, Result.andThen]
  exact hK
structure Outer (F : Nat → Prop) (w w' : World) : Prop where
  os : w'.os = w.os
  tape : w'.tape = w.tape
  output : w'.output = w.output
  size : w.heap.size ≤ w'.heap.size
  block : ∀ i, i < w.heap.size → ¬ F i → w'.heap[i]? = w.heap[i]?
def Grow (F : Nat → Prop) (a b : World) : Nat → Prop := fun i => F i ∨ (a.heap.size ≤ i ∧ i < b.heap.size)
theorem Outer.refl (F : Nat → Prop) (w : World) : Outer F w w := ⟨rfl, rfl, rfl, Nat.le_refl _, fun _ _ _ => rfl⟩
theorem Outer.trans {F : Nat → Prop} {a b c : World} (h : Outer F a b) (k : Outer (Grow F a b) b c) : Outer F a c :=
  ⟨k.os.trans h.os, k.tape.trans h.tape, k.output.trans h.output, Nat.le_trans h.size k.size, fun i hi hx => (k.block i (Nat.lt_of_lt_of_le hi h.size) (fun hg => by rcases hg with hg | hg; exact hx hg; omega)).trans (h.block i hi hx)⟩
theorem Outer.mono {F G : Nat → Prop} {a b : World} (h : Outer F a b) (hi : ∀ i, F i → G i) : Outer G a b := ⟨h.os, h.tape, h.output, h.size, fun i h1 h2 => h.block i h1 fun h3 => h2 (hi i h3)⟩
theorem Outer.below {F : Nat → Prop} {B : Nat} {w w' : World} (h : Outer F w w') (hb : B ≤ w.heap.size) (hF : ∀ i, F i → B ≤ i) : Below B w w' := ⟨h.os, h.tape, h.output, h.size, fun i hi => h.block i (by omega) (fun hf => by have := hF i hf; omega)⟩
theorem Outer.of_below {F : Nat → Prop} {w w' : World} (h : Below w.heap.size w w') : Outer F w w' := ⟨h.os, h.tape, h.output, h.size, fun i hi _ => h.block i hi⟩
theorem Outer.of_grown {F : Nat → Prop} {w w' : World} {row : Option Nat} (h : w.grownBy w' row) (hr : ∀ g, row = some g → F g) : Outer F w w' :=
  ⟨h.os, h.tape, h.output, h.size, fun i hi hx => h.block i hi (fun e => hx (hr i e.symm))⟩
theorem Grow.new {F : Nat → Prop} {a b : World} {i : Nat} (h : a.heap.size ≤ i) (h2 : i < b.heap.size) : Grow F a b i := .inr ⟨h, h2⟩
theorem Grow.more {F : Nat → Prop} {a b c : World} {i : Nat} (h : Grow F a b i) (hs : b.heap.size ≤ c.heap.size) : Grow F a c i := by
  rcases h with h | ⟨h1, h2⟩
  · exact .inl h
  · exact .inr ⟨h1, by omega⟩
section
variable {α : Type} {f : α → List Value} {s : Nat} {e : TypeId}
theorem own_some {w : World} {base e s n : Nat} {v : Value} {xs : List Value} (h : w.ownsRow base e s v n xs) (hn : n ≠ 0) : ∃ g, v.ownBlock = some g ∧ g < w.heap.size := by
  rcases h.2 with ⟨_, h0⟩ | ⟨g, c, cur, hv, _, hh, _⟩
  · exact absurd h0 hn
  · exact ⟨g, by rw [hv]; rfl, (Array.getElem?_eq_some_iff.1 hh).1⟩
def OwnF (F : Nat → Prop) (e : TypeId) (s : Nat) (w : World) (v : Value) (n : Nat) (xs : List Value) : Prop := w.ownsRow 0 e s v n xs ∧ ∀ g, v.ownBlock = some g → F g
theorem OwnF.keep {F G : Nat → Prop} {w w' : World} {v : Value} {n : Nat} {xs : List Value} (h : OwnF F e s w v n xs) (hs : ∀ g cs, F g → w.heap[g]? = some (.cells cs e (0, 0)) → w'.heap[g]? = w.heap[g]?) (hG : ∀ i, i < w.heap.size → F i → G i) : OwnF G e s w' v n xs := by
  obtain ⟨⟨hl, h0 | ⟨g, cap, cur, hv, hg, hh, hr⟩⟩, h2⟩ := h
  · exact ⟨⟨hl, .inl h0⟩, fun g hg => by rw [h0.1] at hg; cases hg⟩
  · have hf := h2 g (by rw [hv]; rfl)
    refine ⟨⟨hl, .inr ⟨g, cap, cur, hv, hg, (hs g cur hf hh).trans hh, hr⟩⟩, fun g' hg' => ?_⟩
    rw [hv] at hg'
    injection hg' with hg'
    subst hg'
    exact hG _ (Array.getElem?_eq_some_iff.1 hh).1 hf
def MapRows (e : TypeId) (s : Nat) (f : α → List Value) (w : World) (F : Nat → Prop) (b : Nat) (D : Nm → List α) : Prop :=
  F b ∧ ∃ ents : List (Nm × Value), MapAt w b ents ∧ (ents.Pairwise fun p q => p.1 ≠ q.1 ∧ p.2.ownBlock ≠ q.2.ownBlock) ∧
    (∀ p ∈ ents, OwnF F e s w p.2 (D p.1).length ((D p.1).flatMap f) ∧ D p.1 ≠ []) ∧ ∀ n, D n ≠ [] → (lookM n ents).isSome = true
theorem MapRows.new (w : World) (F : Nat → Prop) (hb : F w.heap.size) : MapRows e s f (w.alloc (.map #[] 0)) F w.heap.size (fun _ => []) :=
  ⟨hb, [], MapAt.new w, List.Pairwise.nil, by simp, by simp⟩
theorem MapRows.keep {w w' : World} {F G : Nat → Prop} {b : Nat} {D : Nm → List α} (h : MapRows e s f w F b D) (hm : ∀ es c, F b → w.heap[b]? = some (.map es c) → w'.heap[b]? = w.heap[b]?)
    (hs : ∀ g cs, F g → w.heap[g]? = some (.cells cs e (0, 0)) → w'.heap[g]? = w.heap[g]?) (hG : ∀ i, i < w.heap.size → F i → G i) : MapRows e s f w' G b D := by
  obtain ⟨h1, ents, h3, h4, h5, h6⟩ := h
  have hmb : w'.heap[b]? = w.heap[b]? := by
    obtain ⟨es, c, hb, _⟩ := h3
    exact hm es c h1 hb
  exact ⟨hG _ h3.lt h1, ents, h3.same hmb, h4, fun p hp => ⟨(h5 p hp).1.keep hs hG, (h5 p hp).2⟩, h6⟩
theorem MapRows.next {w w' : World} {F : Nat → Prop} {b : Nat} {D : Nm → List α} (h : MapRows e s f w F b D) (hb : Below w.heap.size w w') : MapRows e s f w' F b D :=
  h.keep (fun es c _ hh => hb.block _ (Array.getElem?_eq_some_iff.1 hh).1) (fun g cs _ hh => hb.block _ (Array.getElem?_eq_some_iff.1 hh).1) fun _ _ h => h
theorem MapRows.data {w : World} {F : Nat → Prop} {b : Nat} {D D' : Nm → List α} (h : MapRows e s f w F b D) (hd : ∀ n, D n = D' n) : MapRows e s f w F b D' := by
  have : D = D' := funext hd
  rw [← this]; exact h
theorem pair_apart {l : List (Nm × Value)} (hl : l.Pairwise fun p q => p.1 ≠ q.1 ∧ p.2.ownBlock ≠ q.2.ownBlock) {p q : Nm × Value} (hp : p ∈ l) (hq : q ∈ l) (hpq : p.1 ≠ q.1) : p.2.ownBlock ≠ q.2.ownBlock := by
  induction l with
  | nil => cases hp
  | cons a l ih =>
    obtain ⟨ha, hl⟩ := List.pairwise_cons.1 hl
    rcases List.mem_cons.1 hp with h1 | hp <;> rcases List.mem_cons.1 hq with h2 | hq
    · exact absurd (by rw [h1, h2]) hpq
    · rw [h1]; exact (ha q hq).2
    · rw [h2]; exact fun e => (ha p hp).2 e.symm
    · exact ih hl hp hq
theorem MapRows.find {w : World} {F : Nat → Prop} {b : Nat} {D : Nm → List α} (h : MapRows e s f w F b D) (n : Nm) :
    ∃ ents, MapAt w b ents ∧ OwnF F e s w ((lookM n ents).getD (.slice none 0 0)) (D n).length ((D n).flatMap f) := by
  obtain ⟨h1, ents, h3, h4, h5, h6⟩ := h
  refine ⟨ents, h3, ?_⟩
  cases hl : lookM n ents with
  | some v => exact (h5 _ (look_mem hl)).1
  | none =>
    have : D n = [] := Classical.byContradiction fun hd => by
      have := h6 n hd
      rw [hl] at this
      cases this
    rw [this]
    exact ⟨World.ownsRow_nil _ _ _ _, fun g hg => by cases hg⟩
theorem own_not_map {w : World} {base e s n : Nat} {v : Value} {xs : List Value} {b : Nat} {es : Array MapEntry} {c : Nat} (h : w.ownsRow base e s v n xs) (hb : w.heap[b]? = some (.map es c)) : v.ownBlock ≠ some b := by
  intro e1
  obtain ⟨_, ⟨hv0, _⟩ | ⟨g, cap, cur, hv, _, hh, _⟩⟩ := h
  · rw [hv0] at e1; cases e1
  · rw [hv] at e1
    injection e1 with e1
    simp only at e1
    subst e1
    rw [hb] at hh
    cases hh
theorem own_same {w w' : World} {base e s n : Nat} {v : Value} {xs : List Value} (h : w.ownsRow base e s v n xs) (hs : ∀ g, v.ownBlock = some g → w'.heap[g]? = w.heap[g]?) : w'.ownsRow base e s v n xs := by
  obtain ⟨hl, h0 | ⟨g, cap, cur, hv, hg, hh, hr⟩⟩ := h
  · exact ⟨hl, .inl h0⟩
  · exact ⟨hl, .inr ⟨g, cap, cur, hv, hg, (hs g (by rw [hv]; rfl)).trans hh, hr⟩⟩
theorem MapRows.at_ {w : World} {F : Nat → Prop} {b : Nat} {D : Nm → List α} (h : MapRows e s f w F b D) (n : Nm) :
    ∃ ents v, MapAt w b ents ∧ v = (lookM n ents).getD (.slice none 0 0) ∧ OwnF F e s w v (D n).length ((D n).flatMap f) ∧
      ∀ (w1 w2 : World) (v' : Value) (x : α) (G : Nat → Prop), (∀ i, i < w.heap.size → i ≠ b → some i ≠ v.ownBlock → w1.heap[i]? = w.heap[i]?) → (∃ es c, w1.heap[b]? = some (.map es c)) → w1.ownsRow 0 e s v' ((D n).length + 1) ((D n).flatMap f ++ f x) → (v'.ownBlock = v.ownBlock ∨ ∃ g, v'.ownBlock = some g ∧ w.heap.size ≤ g) → MapAt w2 b (putM n v' ents) → w1.grownBy w2 (some b) →
        (∀ i, F i → G i) → (∀ i, w.heap.size ≤ i → i < w1.heap.size → G i) → MapRows e s f w2 G b (fun m => if m = n then D n ++ [x] else D m) := by
  have hfind := h.find n
  obtain ⟨h1, ents, h3, h4, h5, h6⟩ := h
  have hpn : ents.Pairwise fun p q => p.1 ≠ q.1 := h4.imp fun h => h.1
  have hown0 : OwnF F e s w ((lookM n ents).getD (.slice none 0 0)) (D n).length ((D n).flatMap f) := by
    cases hl : lookM n ents with
    | some v => exact (h5 _ (look_mem hl)).1
    | none =>
      have : D n = [] := Classical.byContradiction fun hd => by
        have := h6 n hd
        rw [hl] at this
        cases this
      rw [this]
      exact ⟨World.ownsRow_nil _ _ _ _, fun g hg => by cases hg⟩
  refine ⟨ents, _, h3, rfl, hown0, ?_⟩
  intro w1 w2 v' x G hg hbm hown hloc hmap hg2 hFG hnew
  have hbl : b < w.heap.size := h3.lt
  obtain ⟨gv, hgv, hgl⟩ := own_some hown (by omega)
  obtain ⟨es0, c0, hb0, _⟩ := id h3
  obtain ⟨es1, c1, hb1⟩ := hbm
  have hold : ∀ p ∈ ents, p.1 ≠ n → ∃ g, p.2.ownBlock = some g ∧ g < w.heap.size ∧ some g ≠ ((lookM n ents).getD (.slice none 0 0)).ownBlock := by
    intro p hp hne
    obtain ⟨k1, k2⟩ := h5 p hp
    obtain ⟨g, hgp, hgl⟩ := own_some k1.1 (by simpa using k2)
    refine ⟨g, hgp, hgl, fun e1 => ?_⟩
    cases hl : lookM n ents with
    | none => rw [hl] at e1; cases e1
    | some u =>
      rw [hl] at e1
      exact pair_apart h4 hp (look_mem hl) hne (hgp.trans e1)
  have hne' : ∀ p ∈ ents, p.1 ≠ n → p.2.ownBlock ≠ v'.ownBlock := by
    intro p hp hne e1
    obtain ⟨g, k1, k2, k3⟩ := hold p hp hne
    rcases hloc with h | ⟨g2, h, hge⟩
    · exact k3 (by rw [← k1, e1, h])
    · rw [k1, h] at e1
      injection e1 with e1
      omega
  have hkeep : ∀ {v : Value} {n2 : Nat} {xs : List Value}, w1.ownsRow 0 e s v n2 xs → w2.ownsRow 0 e s v n2 xs := fun ho => ho.kept hg2 (.inr (own_not_map ho hb1))
  have hGv : ∀ g, v'.ownBlock = some g → G g := by
    intro g hgg
    rcases hloc with h | ⟨g2, h, hge⟩
    · exact hFG _ (hown0.2 g (by rw [← h]; exact hgg))
    · rw [h] at hgg
      injection hgg with hgg
      subst hgg
      rw [hgv] at h
      injection h with h
      exact hnew _ hge (by omega)
  refine ⟨hFG _ h1, _, hmap, put_pair (R := fun u v => u.ownBlock ≠ v.ownBlock) h4 (fun p hp hne => ⟨hne' p hp hne, fun e => hne' p hp hne e.symm⟩), fun p hp => ?_, fun m hm => ?_⟩
  · rcases mem_put hpn hp with rfl | ⟨hp, hne⟩
    · simp only [if_pos]
      refine ⟨⟨hkeep ?_, hGv⟩, by simp⟩
      rw [List.length_append, List.flatMap_append]
      simpa using hown
    · simp only [if_neg hne]
      obtain ⟨k1, k2⟩ := h5 p hp
      obtain ⟨g, j1, j2, j3⟩ := hold p hp hne
      refine ⟨⟨hkeep (own_same k1.1 fun g' hg' => ?_), fun g hgg => hFG _ (k1.2 g hgg)⟩, k2⟩
      rw [j1] at hg'
      injection hg' with hg'
      subst hg'
      exact hg _ j2 (fun e => own_not_map k1.1 hb0 (by rw [j1, e])) j3
  · rw [look_put]
    by_cases hmn : n = m
    · rw [if_pos hmn]; rfl
    · rw [if_neg hmn]
      simp only [if_neg (fun e : m = n => hmn e.symm)] at hm
      exact h6 m hm
end
end Go.Proofs.YtamjllakfgphnaaGreatDoor
namespace Go.Proofs.YtamjllakfgphnaaGreatDoor
open Go.RowKit Go.MapKept Go.ChangeMaps
set_option linter.unusedSimpArgs false
set_option linter.unusedVariables false
def KpM (w w' : World) : Prop := ∀ (b : Nat) (es : Array MapEntry) (c : Nat), w.heap[b]? = some (Obj.map es c) → w'.heap[b]? = some (Obj.map es c)
theorem KpM.trans {a b c : World} (h : KpM a b) (k : KpM b c) : KpM a c := fun i es t h1 => k i es t (h i es t h1)
theorem KpM.of_below {w w' : World} (h : Below w.heap.size w w') : KpM w w' := fun b es c hb => (h.block b (Array.getElem?_eq_some_iff.1 hb).1).trans hb
theorem KpM.of_own {w w' : World} {base e s n : Nat} {v : Value} {xs : List Value} (ho : w.ownsRow base e s v n xs) (h : w.grownBy w' v.ownBlock) : KpM w w' :=
  fun b es c hb => (h.block b (Array.getElem?_eq_some_iff.1 hb).1 (fun e1 => own_not_map ho hb e1.symm)).trans hb
theorem KpM.of_blk {w w' : World} {g t : Nat} {cs : Array Value} (ho : Blk w g t cs) (h : w.grownBy w' (some g)) : KpM w w' :=
  fun b es c hb => (h.block b (Array.getElem?_eq_some_iff.1 hb).1 (fun e1 => by
    injection e1 with e1
    subst e1
    unfold Blk at ho
    rw [hb] at ho
    cases ho)).trans hb
theorem Kept.of_map {w w' : World} {b : Nat} {es : Array MapEntry} {c : Nat} (L : List TypeId) (hb : w.heap[b]? = some (.map es c)) (h : w.grownBy w' (some b)) : Kept L w w' :=
  ⟨h.size, fun i cs e fr h1 _ => (h.block i (Array.getElem?_eq_some_iff.1 h1).1 (fun e1 => by
    injection e1 with e1
    subst e1
    rw [hb] at h1
    cases h1)).trans h1⟩
structure Chg (w w' : World) (b : Nat) (r : Option Nat) : Prop where
  os : w'.os = w.os
  tape : w'.tape = w.tape
  output : w'.output = w.output
  size : w.heap.size ≤ w'.heap.size
  block : ∀ i, i < w.heap.size → i ≠ b → some i ≠ r → w'.heap[i]? = w.heap[i]?
theorem Chg.below {w a c : World} {b : Nat} {r : Option Nat} (h : Chg w a b r) (k : Below a.heap.size a c) : Chg w c b r :=
  ⟨k.os.trans h.os, k.tape.trans h.tape, k.output.trans h.output, Nat.le_trans h.size k.size, fun i hi h1 h2 => (k.block i (Nat.lt_of_lt_of_le hi h.size)).trans (h.block i hi h1 h2)⟩
theorem Chg.map_ {w a c : World} {b : Nat} {r : Option Nat} (h : Chg w a b r) (k : a.grownBy c (some b)) : Chg w c b r :=
  ⟨k.os.trans h.os, k.tape.trans h.tape, k.output.trans h.output, Nat.le_trans h.size k.size, fun i hi h1 h2 => (k.block i (Nat.lt_of_lt_of_le hi h.size) (fun e => h1 (by injection e))).trans (h.block i hi h1 h2)⟩
theorem Chg.row_ {w a c : World} {b : Nat} {r : Option Nat} (h : Chg w a b r) (k : a.grownBy c r) : Chg w c b r :=
  ⟨k.os.trans h.os, k.tape.trans h.tape, k.output.trans h.output, Nat.le_trans h.size k.size, fun i hi h1 h2 => (k.block i (Nat.lt_of_lt_of_le hi h.size) h2).trans (h.block i hi h1 h2)⟩
theorem Chg.refl (w : World) (b : Nat) (r : Option Nat) : Chg w w b r := ⟨rfl, rfl, rfl, Nat.le_refl _, fun _ _ _ _ => rfl⟩
theorem Chg.outer {F : Nat → Prop} {w w' : World} {b : Nat} {r : Option Nat} (h : Chg w w' b r) (hb : F b) (hr : ∀ g, r = some g → F g) : Outer F w w' :=
  ⟨h.os, h.tape, h.output, h.size, fun i hi hx => h.block i hi (fun e => hx (e ▸ hb)) (fun e => hx (hr i e.symm))⟩
abbrev LV : List TypeId := [135, 77, 44, 68, 3]
def kpC (s : St) (p : Option Addr) : List Value := [.pointer p]
abbrev NKp (w : World) (p : Option Addr) (s : St) : Prop := StAt w p s
abbrev OwnKp (w : World) (v : Value) (l : List St) : Prop := RowOwn 44 1 kpC NKp w 0 v l
def inC (i : Int) : List Value := [.int .i64 i]
theorem inC_len (i : Int) : (inC i).length = 1 := rfl
def InF (F : Nat → Prop) (v : Value) : Prop := ∀ g, v.ownBlock = some g → F g
structure VIn (w : World) (F : Nat → Prop) (g : Nat) (pb : Option Addr) (va vk : Value) (pl : Option Addr) (bw br : Nat) (s0 sl : St) (la : List Ac) (lk : List St) (Dw : Nm → List Ver) (Dr : Nm → List Int) : Prop where
  blk : Blk w g 135 #[.pointer pb, va, vk, .pointer pl, .map (some bw), .map (some br)]
  fg : F g
  base : StAt w pb s0
  last : StAt w pl sl
  act : OwnAc w 0 va la
  actF : InF F va
  kp : OwnKp w vk lk
  kpF : InF F vk
  wr : MapRows 68 3 veC w F bw Dw
  rd : MapRows 3 1 inC w F br Dr
  ne : bw ≠ br
section
variable {w w' w0 : World} {F G : Nat → Prop} {g : Nat} {pb : Option Addr} {va vk : Value} {pl : Option Addr} {bw br : Nat} {s0 sl : St} {la : List Ac} {lk : List St} {Dw : Nm → List Ver} {Dr : Nm → List Int}
theorem OwnAc.keep {L : List TypeId} {v : Value} {l : List Ac} {b : Nat} (h : OwnAc w b v l) (k : Kept L w w') (h1 : L.contains 77 = false) (h2 : L.contains 105 = false) : OwnAc w' b v l := RowOwn.keep h k h1 fun _ _ => NAc.keep k h2
theorem OwnKp.keep {L : List TypeId} {v : Value} {l : List St} (h : OwnKp w v l) (k : Kept L w w') (h1 : L.contains 44 = false) (h2 : L.contains 140 = false) (h3 : L.contains 143 = false) : OwnKp w' v l := RowOwn.keep h k h1 fun _ _ h => StAt.keep h k h2 h3
theorem MapRows.kept {α : Type} {f : α → List Value} {s : Nat} {e : TypeId} {L : List TypeId} {b : Nat} {D : Nm → List α} (h : MapRows e s f w F b D) (k : Kept L w w') (m : KpM w w') (he : L.contains e = false) (hG : ∀ i, F i → G i) : MapRows e s f w' G b D :=
  h.keep (fun es c _ hb => (m b es c hb).trans hb.symm) (fun g cs _ hb => (k.block g cs e (0, 0) hb he).trans hb.symm) fun i _ h => hG i h
theorem VIn.next (h : VIn w F g pb va vk pl bw br s0 sl la lk Dw Dr) (hb : Below w.heap.size w w') : VIn w' F g pb va vk pl bw br s0 sl la lk Dw Dr where
  blk := h.blk.next hb h.blk.lt
  fg := h.fg
  base := h.base.next hb
  last := h.last.next hb
  act := OwnAc.keep h.act (Kept.of_below [] hb) rfl rfl
  actF := h.actF
  kp := OwnKp.keep h.kp (Kept.of_below [] hb) rfl rfl rfl
  kpF := h.kpF
  wr := h.wr.next hb
  rd := h.rd.next hb
  ne := h.ne
theorem VIn.mono (h : VIn w F g pb va vk pl bw br s0 sl la lk Dw Dr) (hG : ∀ i, F i → G i) : VIn w G g pb va vk pl bw br s0 sl la lk Dw Dr where
  blk := h.blk
  fg := hG _ h.fg
  base := h.base
  last := h.last
  act := h.act
  actF := fun i hi => hG _ (h.actF i hi)
  kp := h.kp
  kpF := fun i hi => hG _ (h.kpF i hi)
  wr := h.wr.kept (Kept.refl [] w) (fun _ _ _ h => h) rfl hG
  rd := h.rd.kept (Kept.refl [] w) (fun _ _ _ h => h) rfl hG
  ne := h.ne
structure VNow (w0 : World) (F : Nat → Prop) (w : World) (g : Nat) (pb : Option Addr) (va vk : Value) (pl : Option Addr) (bw br : Nat) (s0 sl : St) (la : List Ac) (lk : List St) (Dw : Nm → List Ver) (Dr : Nm → List Int) : Prop where
  vin : VIn w (Grow F w0 w) g pb va vk pl bw br s0 sl la lk Dw Dr
  out : Outer F w0 w
  kept : Kept LV w0 w
theorem VNow.start (h : VIn w F g pb va vk pl bw br s0 sl la lk Dw Dr) : VNow w F w g pb va vk pl bw br s0 sl la lk Dw Dr := ⟨h.mono fun _ h => .inl h, Outer.refl _ _, Kept.refl _ _⟩
theorem grow_le {F : Nat → Prop} {a b c : World} (h : b.heap.size ≤ c.heap.size) : ∀ i, Grow F a b i → Grow F a c i := fun _ h1 => Grow.more h1 h
theorem VNow.next (h : VNow w0 F w g pb va vk pl bw br s0 sl la lk Dw Dr) (hb : Below w.heap.size w w') : VNow w0 F w' g pb va vk pl bw br s0 sl la lk Dw Dr :=
  ⟨(h.vin.next hb).mono (grow_le hb.size), h.out.trans (Outer.of_below hb), h.kept.trans (Kept.of_below _ hb)⟩
theorem VIn.set_ (h : VIn w F g pb va vk pl bw br s0 sl la lk Dw Dr) (k : Nat) (u : Value) : Kept [135] w (w.setCell ⟨g, k, none⟩ u) ∧ KpM w (w.setCell ⟨g, k, none⟩ u) := by
  have hg : w.grownBy (w.setCell ⟨g, k, none⟩ u) (some g) := only_setCell (only_of_below (Below.refl _ _) _) (.inl rfl) u
  exact ⟨Kept.of_blk _ h.blk hg rfl, KpM.of_blk h.blk hg⟩
theorem VNow.last_ (h : VNow w0 F w g pb va vk pl bw br s0 sl la lk Dw Dr) {q : Option Addr} {s2 : St} (hq : StAt w q s2) : VNow w0 F (w.setCell ⟨g, 3, none⟩ (.pointer q)) g pb va vk q bw br s0 s2 la lk Dw Dr := by
  obtain ⟨hv, ho, hk⟩ := h
  obtain ⟨k, m⟩ := hv.set_ 3 (.pointer q)
  have hsz : (w.setCell ⟨g, 3, none⟩ (.pointer q)).heap.size = w.heap.size := by simp [World.setCell]
  have hle : ∀ i, Grow F w0 w i → Grow F w0 (w.setCell ⟨g, 3, none⟩ (.pointer q)) i := grow_le (Nat.le_of_eq hsz.symm)
  refine ⟨⟨hv.blk.set_ 3 (.pointer q), hle _ hv.fg, hv.base.keep k rfl rfl, hq.keep k rfl rfl, OwnAc.keep hv.act k rfl rfl, fun i hi => hle _ (hv.actF i hi), OwnKp.keep hv.kp k rfl rfl rfl, fun i hi => hle _ (hv.kpF i hi), hv.wr.kept k m rfl hle, hv.rd.kept k m rfl hle, hv.ne⟩, ho.trans ?_, hk.trans (k.mono fun e he => by simp [LV] at he ⊢; exact he.1)⟩
  refine Outer.of_grown (only_setCell (only_of_below (Below.refl _ _) _) (.inl rfl) _) ?_
  intro i hi
  injection hi with hi
  subst hi
  exact hv.fg
theorem VNow.kept_ (h : VNow w0 F w g pb va vk pl bw br s0 sl la lk Dw Dr) {w1 : World} {vk' : Value} {us : List (Option Addr)} (hr : RowW NKp w lk us) {p : Option Addr} {s : St} (hp : StAt w p s) (hvk : w.ownsRow 0 44 1 vk lk.length (rowC kpC lk us))
    (hg : w.grownBy w1 vk.ownBlock) (hown : w1.ownsRow 0 44 1 vk' (lk.length + 1) (rowC kpC lk us ++ [.pointer p])) (hat : vk'.ownBlock = vk.ownBlock ∨ ∃ i, vk'.ownBlock = some i ∧ w.heap.size ≤ i) :
    VNow w0 F (w1.setCell ⟨g, 2, none⟩ vk') g pb va vk' pl bw br s0 sl la (lk ++ [s]) Dw Dr := by
  obtain ⟨hv, ho, hk⟩ := h
  have k1 : Kept [44, 135] w w1 := Kept.of_own _ hvk hg rfl
  have m1 : KpM w w1 := KpM.of_own hvk hg
  have hgne : vk.ownBlock ≠ some g := own_blk_ne hvk hv.blk (by decide)
  have b1 : Blk w1 g 135 #[.pointer pb, va, vk, .pointer pl, .map (some bw), .map (some br)] := hv.blk.grown hg (fun e => hgne e.symm)
  have hg2 : w1.grownBy (w1.setCell ⟨g, 2, none⟩ vk') (some g) := only_setCell (only_of_below (Below.refl _ _) _) (.inl rfl) vk'
  have k2 : Kept [44, 135] w (w1.setCell ⟨g, 2, none⟩ vk') := k1.trans (Kept.of_blk _ b1 hg2 rfl)
  have m2 : KpM w (w1.setCell ⟨g, 2, none⟩ vk') := m1.trans (KpM.of_blk b1 hg2)
  have hle : ∀ i, Grow F w0 w i → Grow F w0 (w1.setCell ⟨g, 2, none⟩ vk') i := grow_le (Nat.le_trans hg.size hg2.size)
  have h0 : w0.heap.size ≤ w.heap.size := ho.size
  have hvF : InF (Grow F w0 (w1.setCell ⟨g, 2, none⟩ vk')) vk' := by
    intro i hi
    rcases hat with h | ⟨j, h, hj⟩
    · exact hle _ (hv.kpF i (by rw [← h]; exact hi))
    · rw [h] at hi
      injection hi with hi
      subst hi
      obtain ⟨gv, e1, e2⟩ := own_some hown (by omega)
      rw [h] at e1
      injection e1 with e1
      exact .inr ⟨by omega, Nat.lt_of_lt_of_le (by omega) hg2.size⟩
  have hown2 : (w1.setCell ⟨g, 2, none⟩ vk').ownsRow 0 44 1 vk' (lk.length + 1) (rowC kpC lk us ++ [.pointer p]) := hown.kept hg2 (.inr (own_blk_ne hown b1 (by decide)))
  refine ⟨⟨b1.set_ 2 vk', hle _ hv.fg, hv.base.keep k2 rfl rfl, hv.last.keep k2 rfl rfl, OwnAc.keep hv.act k2 rfl rfl, fun i hi => hle _ (hv.actF i hi), RowOwn.push (f := kpC) hr hown2 (fun _ _ h => StAt.keep h k2 rfl rfl) (hp.keep k2 rfl rfl), hvF, hv.wr.kept k2 m2 rfl hle, hv.rd.kept k2 m2 rfl hle, hv.ne⟩, ho.trans ?_, hk.trans (k2.mono fun e he => by simp [LV] at he ⊢; exact ⟨he.2.2.1, he.1⟩)⟩
  have o1 : Outer (Grow F w0 w) w w1 := Outer.of_grown hg fun i hi => hv.kpF i hi
  exact o1.trans (Outer.of_grown hg2 fun i hi => by injection hi with hi; subst hi; exact .inl hv.fg)
theorem VNow.act_ (h : VNow w0 F w g pb va vk pl bw br s0 sl la lk Dw Dr) {w1 : World} {va' : Value} {us : List (Value × Value)} (hr : RowW NAc w la us) {a : Ac} {u : Value × Value} (hp : NAc w u a) (hva : w.ownsRow 0 77 6 va la.length (rowC acC la us))
    (hg : w.grownBy w1 va.ownBlock) (hown : w1.ownsRow 0 77 6 va' (la.length + 1) (rowC acC la us ++ acC a u)) (hat : va'.ownBlock = va.ownBlock ∨ ∃ i, va'.ownBlock = some i ∧ w.heap.size ≤ i) :
    VNow w0 F (w1.setCell ⟨g, 1, none⟩ va') g pb va' vk pl bw br s0 sl (la ++ [a]) lk Dw Dr := by
  obtain ⟨hv, ho, hk⟩ := h
  have k1 : Kept [77, 135] w w1 := Kept.of_own _ hva hg rfl
  have m1 : KpM w w1 := KpM.of_own hva hg
  have hgne : va.ownBlock ≠ some g := own_blk_ne hva hv.blk (by decide)
  have b1 : Blk w1 g 135 #[.pointer pb, va, vk, .pointer pl, .map (some bw), .map (some br)] := hv.blk.grown hg (fun e => hgne e.symm)
  have hg2 : w1.grownBy (w1.setCell ⟨g, 1, none⟩ va') (some g) := only_setCell (only_of_below (Below.refl _ _) _) (.inl rfl) va'
  have k2 : Kept [77, 135] w (w1.setCell ⟨g, 1, none⟩ va') := k1.trans (Kept.of_blk _ b1 hg2 rfl)
  have m2 : KpM w (w1.setCell ⟨g, 1, none⟩ va') := m1.trans (KpM.of_blk b1 hg2)
  have hle : ∀ i, Grow F w0 w i → Grow F w0 (w1.setCell ⟨g, 1, none⟩ va') i := grow_le (Nat.le_trans hg.size hg2.size)
  have h0 : w0.heap.size ≤ w.heap.size := ho.size
  have hvF : InF (Grow F w0 (w1.setCell ⟨g, 1, none⟩ va')) va' := by
    intro i hi
    rcases hat with h | ⟨j, h, hj⟩
    · exact hle _ (hv.actF i (by rw [← h]; exact hi))
    · rw [h] at hi
      injection hi with hi
      subst hi
      obtain ⟨gv, e1, e2⟩ := own_some hown (by omega)
      rw [h] at e1
      injection e1 with e1
      exact .inr ⟨by omega, Nat.lt_of_lt_of_le (by omega) hg2.size⟩
  have hown2 : (w1.setCell ⟨g, 1, none⟩ va').ownsRow 0 77 6 va' (la.length + 1) (rowC acC la us ++ acC a u) := hown.kept hg2 (.inr (own_blk_ne hown b1 (by decide)))
  refine ⟨⟨b1.set_ 1 va', hle _ hv.fg, hv.base.keep k2 rfl rfl, hv.last.keep k2 rfl rfl, RowOwn.push (f := acC) hr hown2 (fun _ _ h => NAc.keep k2 rfl h) (NAc.keep k2 rfl hp), hvF, OwnKp.keep hv.kp k2 rfl rfl rfl, fun i hi => hle _ (hv.kpF i hi), hv.wr.kept k2 m2 rfl hle, hv.rd.kept k2 m2 rfl hle, hv.ne⟩, ho.trans ?_, hk.trans (k2.mono fun e he => by simp [LV] at he ⊢; exact ⟨he.2.1, he.1⟩)⟩
  have o1 : Outer (Grow F w0 w) w w1 := Outer.of_grown hg fun i hi => hv.actF i hi
  exact o1.trans (Outer.of_grown hg2 fun i hi => by injection hi with hi; subst hi; exact .inl hv.fg)
end
end Go.Proofs.YtamjllakfgphnaaGreatDoor
namespace Go.Proofs.YtamjllakfgphnaaGreatDoor
open Go.RowKit Go.MapKept Go.ChangeMaps
set_option linter.unusedSimpArgs false
set_option linter.unusedVariables false
theorem own_cells_of {w : World} {base e s n : Nat} {v : Value} {xs : List Value} (h : w.ownsRow base e s v n xs) {g : Nat} (hg : v.ownBlock = some g) : ∃ cur, w.heap[g]? = some (.cells cur e (0, 0)) := by
  obtain ⟨_, ⟨hv0, _⟩ | ⟨g', cap, cur, hv, _, hh, _⟩⟩ := h
  · rw [hv0] at hg; cases hg
  · rw [hv] at hg
    injection hg with hg
    simp only at hg
    subst hg
    exact ⟨cur, hh⟩
theorem Chg.kept {w w2 : World} {b base e s n : Nat} {v : Value} {xs : List Value} {es : Array MapEntry} {c : Nat} (h : Chg w w2 b v.ownBlock) (hb : w.heap[b]? = some (.map es c)) (ho : w.ownsRow base e s v n xs) : Kept [e] w w2 :=
  ⟨h.size, fun i cs e' fr h1 h2 => (h.block i (Array.getElem?_eq_some_iff.1 h1).1 (fun e1 => by subst e1; rw [hb] at h1; cases h1) (fun e1 => by
    obtain ⟨cur, hc⟩ := own_cells_of ho e1.symm
    rw [hc] at h1
    injection h1 with h1
    injection h1 with _ h1 _
    subst h1
    simp at h2)).trans h1⟩
theorem Chg.other {w w2 : World} {b i base e s n : Nat} {v : Value} {xs : List Value} (h : Chg w w2 b v.ownBlock) (hi : i ≠ b) (ho : w.ownsRow base e s v n xs) {es : Array MapEntry} {c : Nat} (hb : w.heap[i]? = some (.map es c)) : w2.heap[i]? = w.heap[i]? :=
  h.block i (Array.getElem?_eq_some_iff.1 hb).1 hi fun e1 => own_not_map ho hb e1.symm
theorem step_entry_nm (w : World) {ops : Array Oper} {o : Oper} {a : Go.Act} {K : Go.Act → World → Prop} {Q : Exit → Go.Act → World → Prop} {X : Prop} (hg : o.guard = none) (m x : Operand) (t : TypeId) (hop : o.op = Op.mapEntry t m x) {E : TypeId}
    (ht : Tryz.prog.underlying t = some (.map 26 E)) {z : Value} (hz : (zeroValue E).run Tryz.prog w = .ok z w) (b : Nat) (ents : List (Nm × Value)) (hm : a.eval m = .map (some b)) (h : MapAt w b ents) (n : Nm) (hx : a.eval x = nmV n) (u : Value) (hu : (lookM n ents).getD z = u)
    (hK : ∀ (w' : World) (st : Nat), w.grownBy w' (some b) → (∃ es c, w'.heap[b]? = some (.map es c)) → (∀ (w2 : World) (y : Value), w2.heap[b]? = w'.heap[b]? → ∃ w3, (Instr.entryStore t (.map (some b)) (.int .i64 st) y).run Tryz.prog w2 = .ok () w3 ∧ MapAt w3 b (putM n y ents) ∧ w2.grownBy w3 (some b)) →
      K (a.put o.dst (.tuple #[u, .int .i64 st])) w') : if Region.wanted o (yielded ops a.tmps) = true then Oper.wp Tryz.prog o a w K Q else X := by
  have hw : Region.wanted o (yielded ops a.tmps) = true := by simp [Region.wanted, hg]
  rw [if_pos hw]
  obtain ⟨w', st, hrun, h1, h2, h3⟩ := map_entry h n ht hz
  subst hu
  unfold Oper.wp
  simp [execOp, hop, hm, hx, hrun, Result.andThen]
  exact hK w' st h1 h2 h3
section
variable {w w' w0 : World} {F G : Nat → Prop} {g : Nat} {pb : Option Addr} {va vk : Value} {pl : Option Addr} {bw br : Nat} {s0 sl : St} {la : List Ac} {lk : List St} {Dw : Nm → List Ver} {Dr : Nm → List Int}
theorem VNow.wr_ (h : VNow w0 F w g pb va vk pl bw br s0 sl la lk Dw Dr) (n : Nm) : ∃ ents A c, MapAt w bw ents ∧ (lookM n ents).getD (.slice none 0 0) = .slice A (Dw n).length c ∧ w.ownsRow 0 68 3 (.slice A (Dw n).length c) (Dw n).length ((Dw n).flatMap veC) ∧
    ∀ (w2 w3 : World) (v' : Value) (x : Ver), Chg w w2 bw (Value.slice A (Dw n).length c).ownBlock → (∃ es c, w2.heap[bw]? = some (.map es c)) → w2.ownsRow 0 68 3 v' ((Dw n).length + 1) ((Dw n).flatMap veC ++ veC x) → (v'.ownBlock = (Value.slice A (Dw n).length c).ownBlock ∨ ∃ i, v'.ownBlock = some i ∧ w.heap.size ≤ i) →
      MapAt w3 bw (putM n v' ents) → w2.grownBy w3 (some bw) → VNow w0 F w3 g pb va vk pl bw br s0 sl la lk (fun m => if m = n then Dw n ++ [x] else Dw m) Dr := by
  obtain ⟨hv, ho, hk⟩ := h
  obtain ⟨ents, v, hm, hve, hown, hback⟩ := hv.wr.at_ n
  obtain ⟨A, c, hvs, hc⟩ := own_len hown.1
  subst hvs
  obtain ⟨es, cl, hb, _⟩ := id hm
  refine ⟨ents, A, c, hm, hve.symm, hown.1, fun w2 w3 v' x hch hbm hown' hat hmap hg3 => ?_⟩
  obtain ⟨es2, c2, hb2⟩ := id hbm
  have hs2 : w.heap.size ≤ w2.heap.size := hch.size
  have hs3 : w2.heap.size ≤ w3.heap.size := hg3.size
  have k2 : Kept [68] w w3 := (hch.kept hb hown.1).trans (Kept.of_map _ hb2 hg3)
  have hle : ∀ i, Grow F w0 w i → Grow F w0 w3 i := grow_le (Nat.le_trans hs2 hs3)
  have h0 : w0.heap.size ≤ w.heap.size := ho.size
  have mo : ∀ (es : Array MapEntry) (c : Nat), w.heap[br]? = some (.map es c) → w3.heap[br]? = w.heap[br]? := fun es c hbo =>
    (hg3.block br (Nat.lt_of_lt_of_le (Array.getElem?_eq_some_iff.1 hbo).1 hs2) (fun e => by injection e with e; exact hv.ne e.symm)).trans (hch.other (fun e => hv.ne e.symm) hown.1 hbo)
  have mw : MapRows 68 3 veC w3 (Grow F w0 w3) bw (fun m => if m = n then Dw n ++ [x] else Dw m) :=
    hback w2 w3 v' x (Grow F w0 w3) hch.block hbm hown' hat hmap hg3 hle fun i h1 h2 => .inr ⟨Nat.le_trans h0 h1, Nat.lt_of_lt_of_le h2 hs3⟩
  refine ⟨⟨hv.blk.keep k2 rfl, hle _ hv.fg, hv.base.keep k2 rfl rfl, hv.last.keep k2 rfl rfl, OwnAc.keep hv.act k2 rfl rfl, fun i hi => hle _ (hv.actF i hi), OwnKp.keep hv.kp k2 rfl rfl rfl, fun i hi => hle _ (hv.kpF i hi), mw, hv.rd.keep (fun es c _ hbo => mo es c hbo) (fun i cs _ hi => (k2.block i cs _ (0, 0) hi rfl).trans hi.symm) fun i _ hi => hle i hi, hv.ne⟩, ho.trans ?_, hk.trans (k2.mono fun e he => by simp [LV] at he ⊢; exact he.2.2.2.1)⟩
  have hfb : Grow F w0 w bw := hv.wr.1
  exact (hch.outer hfb hown.2).trans (Outer.of_grown hg3 fun i hi => by injection hi with hi; subst hi; exact .inl hfb)
theorem VNow.rd_ (h : VNow w0 F w g pb va vk pl bw br s0 sl la lk Dw Dr) (n : Nm) : ∃ ents A c, MapAt w br ents ∧ (lookM n ents).getD (.slice none 0 0) = .slice A (Dr n).length c ∧ w.ownsRow 0 3 1 (.slice A (Dr n).length c) (Dr n).length ((Dr n).flatMap inC) ∧
    ∀ (w2 w3 : World) (v' : Value) (x : Int), Chg w w2 br (Value.slice A (Dr n).length c).ownBlock → (∃ es c, w2.heap[br]? = some (.map es c)) → w2.ownsRow 0 3 1 v' ((Dr n).length + 1) ((Dr n).flatMap inC ++ inC x) → (v'.ownBlock = (Value.slice A (Dr n).length c).ownBlock ∨ ∃ i, v'.ownBlock = some i ∧ w.heap.size ≤ i) →
      MapAt w3 br (putM n v' ents) → w2.grownBy w3 (some br) → VNow w0 F w3 g pb va vk pl bw br s0 sl la lk Dw (fun m => if m = n then Dr n ++ [x] else Dr m) := by
  obtain ⟨hv, ho, hk⟩ := h
  obtain ⟨ents, v, hm, hve, hown, hback⟩ := hv.rd.at_ n
  obtain ⟨A, c, hvs, hc⟩ := own_len hown.1
  subst hvs
  obtain ⟨es, cl, hb, _⟩ := id hm
  refine ⟨ents, A, c, hm, hve.symm, hown.1, fun w2 w3 v' x hch hbm hown' hat hmap hg3 => ?_⟩
  obtain ⟨es2, c2, hb2⟩ := id hbm
  have hs2 : w.heap.size ≤ w2.heap.size := hch.size
  have hs3 : w2.heap.size ≤ w3.heap.size := hg3.size
  have k2 : Kept [3] w w3 := (hch.kept hb hown.1).trans (Kept.of_map _ hb2 hg3)
  have hle : ∀ i, Grow F w0 w i → Grow F w0 w3 i := grow_le (Nat.le_trans hs2 hs3)
  have h0 : w0.heap.size ≤ w.heap.size := ho.size
  have mo : ∀ (es : Array MapEntry) (c : Nat), w.heap[bw]? = some (.map es c) → w3.heap[bw]? = w.heap[bw]? := fun es c hbo =>
    (hg3.block bw (Nat.lt_of_lt_of_le (Array.getElem?_eq_some_iff.1 hbo).1 hs2) (fun e => by injection e with e; exact hv.ne e)).trans (hch.other (fun e => hv.ne e) hown.1 hbo)
  have mw : MapRows 3 1 inC w3 (Grow F w0 w3) br (fun m => if m = n then Dr n ++ [x] else Dr m) :=
    hback w2 w3 v' x (Grow F w0 w3) hch.block hbm hown' hat hmap hg3 hle fun i h1 h2 => .inr ⟨Nat.le_trans h0 h1, Nat.lt_of_lt_of_le h2 hs3⟩
  refine ⟨⟨hv.blk.keep k2 rfl, hle _ hv.fg, hv.base.keep k2 rfl rfl, hv.last.keep k2 rfl rfl, OwnAc.keep hv.act k2 rfl rfl, fun i hi => hle _ (hv.actF i hi), OwnKp.keep hv.kp k2 rfl rfl rfl, fun i hi => hle _ (hv.kpF i hi), hv.wr.keep (fun es c _ hbo => mo es c hbo) (fun i cs _ hi => (k2.block i cs _ (0, 0) hi rfl).trans hi.symm) fun i _ hi => hle i hi, mw, hv.ne⟩, ho.trans ?_, hk.trans (k2.mono fun e he => by simp [LV] at he ⊢; exact he.2.2.2.2)⟩
  have hfb : Grow F w0 w br := hv.rd.1
  exact (hch.outer hfb hown.2).trans (Outer.of_grown hg3 fun i hi => by injection hi with hi; subst hi; exact .inl hfb)
theorem VNow.data (h : VNow w0 F w g pb va vk pl bw br s0 sl la lk Dw Dr) {Dw' : Nm → List Ver} {Dr' : Nm → List Int} (h1 : ∀ n, Dw n = Dw' n) (h2 : ∀ n, Dr n = Dr' n) : VNow w0 F w g pb va vk pl bw br s0 sl la lk Dw' Dr' := by
  have e1 : Dw = Dw' := funext h1
  have e2 : Dr = Dr' := funext h2
  rw [← e1, ← e2]; exact h
end
def VAt (w : World) (F : Nat → Prop) (g : Nat) (s0 : St) (l : List Ac) : Prop := ∃ pb va vk pl bw br, VIn w F g pb va vk pl bw br s0 (stS s0 l) l (keptS s0 l) (fun n => vers n 0 l) (fun n => rdrs n 0 l)
theorem VAt.next {w w' : World} {F : Nat → Prop} {g : Nat} {s0 : St} {l : List Ac} (h : VAt w F g s0 l) (hb : Below w.heap.size w w') : VAt w' F g s0 l := by
  obtain ⟨pb, va, vk, pl, bw, br, h⟩ := h
  exact ⟨pb, va, vk, pl, bw, br, h.next hb⟩
theorem VAt.mono {w : World} {F G : Nat → Prop} {g : Nat} {s0 : St} {l : List Ac} (h : VAt w F g s0 l) (hG : ∀ i, F i → G i) : VAt w G g s0 l := by
  obtain ⟨pb, va, vk, pl, bw, br, h⟩ := h
  exact ⟨pb, va, vk, pl, bw, br, h.mono hG⟩
end Go.Proofs.YtamjllakfgphnaaGreatDoor
namespace Go.Proofs.YtamjllakfgphnaaGreatDoor
open Go.RowKit Go.Shelf
set_option linter.unusedSimpArgs false
set_option linter.unusedVariables false
structure KpB (nb : Nat) (Wr : Nat → Prop) (X Y : World) : Prop where
  low : Below nb X Y
  high : ∀ (k : Nat) (o : Obj), ¬ Wr k → X.heap[k]? = some o → Y.heap[k]? = some o
theorem KpB.refl (nb : Nat) (Wr : Nat → Prop) (X : World) : KpB nb Wr X X := ⟨Below.refl _ _, fun _ _ _ h => h⟩
theorem KpB.trans {nb : Nat} {Wr : Nat → Prop} {X Y Z : World} (h : KpB nb Wr X Y) (k : KpB nb Wr Y Z) : KpB nb Wr X Z := ⟨h.low.trans k.low, fun i o h1 h2 => k.high i o h1 (h.high i o h1 h2)⟩
theorem KpB.of_below {nb : Nat} {Wr : Nat → Prop} {X Y : World} (hb : Below X.heap.size X Y) (hn : nb ≤ X.heap.size) : KpB nb Wr X Y :=
  ⟨hb.mono hn, fun k o _ h => (hb.block k (Array.getElem?_eq_some_iff.1 h).1).trans h⟩
theorem KpB.alloc {nb : Nat} {Wr : Nat → Prop} (X : World) (o : Obj) (hn : nb ≤ X.heap.size) : KpB nb Wr X (X.alloc o) := KpB.of_below ((Below.refl _ X).alloc (Nat.le_refl _) o) hn
theorem KpB.drew {nb : Nat} {Wr : Nat → Prop} (X : World) (hn : nb ≤ X.heap.size) : KpB nb Wr X X.drew := KpB.of_below (Below.refl _ X).drew hn
theorem KpB.setCell {nb : Nat} {Wr : Nat → Prop} (X : World) (p : Addr) (v : Value) (hn : nb ≤ p.block) (hw : Wr p.block) : KpB nb Wr X (X.setCell p v) :=
  ⟨(Below.refl nb X).setCell hn v, fun k o h1 h2 => (Below.heap_setCell X p v k (fun e => h1 (e ▸ hw))).trans h2⟩
structure RoundKeeps (nb : Nat) (Wr : Nat → Prop) (r : Nat) (X Y : World) : Prop where
  low : Below nb X Y
  high : ∀ (k : Nat) (o : Obj), k ≠ r → ¬ Wr k → X.heap[k]? = some o → Y.heap[k]? = some o
theorem RoundKeeps.trans {nb : Nat} {Wr : Nat → Prop} {r : Nat} {X Y Z : World} (h : RoundKeeps nb Wr r X Y) (k : RoundKeeps nb Wr r Y Z) : RoundKeeps nb Wr r X Z :=
  ⟨h.low.trans k.low, fun i o h1 h2 h3 => k.high i o h1 h2 (h.high i o h1 h2 h3)⟩
theorem KpB.round {nb : Nat} {Wr : Nat → Prop} {X Y : World} (h : KpB nb Wr X Y) (r : Nat) : RoundKeeps nb Wr r X Y := ⟨h.low, fun k o _ h2 h3 => h.high k o h2 h3⟩
theorem RoundKeeps.put {nb : Nat} {Wr : Nat → Prop} {r : Nat} (X : World) (o o' : Obj) (hr : X.heap[r]? = some o) (hn : nb ≤ r) : RoundKeeps nb Wr r X (X.putObj r o') := by
  have hg := grownBy_putObj' X r o'
  exact ⟨⟨hg.os, hg.tape, hg.output, hg.size, fun i hi => hg.block i (Nat.lt_of_lt_of_le hi (Nat.le_of_lt (Nat.lt_of_le_of_lt hn (Array.getElem?_eq_some_iff.1 hr).1))) (fun e => by injection e with e; omega)⟩,
    fun k q h1 _ h3 => (hg.block k (Array.getElem?_eq_some_iff.1 h3).1 (fun e => by injection e with e; exact h1 e)).trans h3⟩
theorem row_keeps {X Y : World} {row : Option Nat} (hg : X.grownBy Y row) {k : Nat} {o : Obj} (h : X.heap[k]? = some o) (hne : ∀ r, row = some r → r ≠ k) : Y.heap[k]? = some o :=
  (hg.block k (Array.getElem?_eq_some_iff.1 h).1 (fun e => hne k e.symm rfl)).trans h
structure RoundOthers (B r : Nat) (X Y : World) : Prop where
  size : X.heap.size ≤ Y.heap.size
  high : ∀ (k : Nat) (o : Obj), k ≠ r → B ≤ k → X.heap[k]? = some o → o.isCells = false → Y.heap[k]? = some o
theorem RoundOthers.trans {B r : Nat} {X Y Z : World} (h : RoundOthers B r X Y) (k : RoundOthers B r Y Z) : RoundOthers B r X Z :=
  ⟨Nat.le_trans h.size k.size, fun i o h1 h2 h3 h4 => k.high i o h1 h2 (h.high i o h1 h2 h3 h4) h4⟩
theorem RoundOthers.of_from {B r : Nat} {X Y : World} (h : KeepsFrom B X Y) : RoundOthers B r X Y := ⟨h.size, fun k o _ h2 h3 h4 => h.same k o h2 h3 h4⟩
theorem RoundOthers.put {B r : Nat} (X : World) (o' : Obj) : RoundOthers B r X (X.putObj r o') :=
  ⟨(grownBy_putObj' X r o').size, fun k q h1 _ h3 _ => ((grownBy_putObj' X r o').block k (Array.getElem?_eq_some_iff.1 h3).1 (fun e => by injection e with e; exact h1 e)).trans h3⟩
def SeqBut {α : Type} (F : Fence) (n : Nat) (P : Program) (g : Nat) (lb : Array Value) (encs : α → Array Value) (nb : Nat) (Wr : Nat → Prop) (S Sp : List α → Prop) (N : Nat) (w : World) : Prop :=
  ∀ (J Jx : List α → World → Prop) (W : World), Below w.heap.size w W → w.heap.size + 2 ≤ W.heap.size → OwnFrom W.heap.size J → OwnFrom W.heap.size Jx →
    (∀ pre x X, J pre X → pre.length < N → YieldAt F (n - 1) P (w.heap.size + 1) (encs x) X fun e Y =>
      (e = .returned (.bool true) ∧ J (pre ++ [x]) Y ∧ RoundKeeps nb Wr (w.heap.size + 1) X Y) ∨ (e = .returned (.bool false) ∧ Jx (pre ++ [x]) Y ∧ RoundOthers w.heap.size (w.heap.size + 1) X Y)) →
    J [] W →
    CallsIn F n P g (#[.func (.yield (w.heap.size + 1)) #[] #[]] ++ lb) W fun e Y => (∃ v, e = .returned v) ∧ ((∃ ys, S ys ∧ J ys Y) ∨ (∃ pre, Sp pre ∧ Jx pre Y))
set_option maxHeartbeats 1000000 in
theorem wpIn_range_but {α : Type} {F : Fence} {n : Nat} {P : Program} {g : Operand} {ps : Array Tmp} {assign body : Code} {Q : Exit → Go.Act → World → Prop} {a : Go.Act} {w : World}
    (hro : F.round = none) (h1 : 1 ≤ n) {gf : Nat} {lb : Array Value} (hg : a.eval g = .func (.func gf) #[] lb) (hFg : F.fn gf) (eg : ∀ args w, (callFunc gf args).run P w = .ok (.enter gf args) w)
    {encs : α → Array Value} {nb : Nat} (hnb : nb ≤ w.heap.size) {Wr : Nat → Prop} {S Sp : List α → Prop} {N : Nat} (hseq : SeqBut F (n - 1) P gf lb encs nb Wr S Sp N w) (hps : ∀ x, (encs x).size = ps.size)
    (I : List α → World → Prop) (Ix : Code → List α → World → Prop) (hI : OwnFrom w.heap.size I) (hIx : ∀ c, OwnFrom w.heap.size (Ix c)) (h0 : I [] w) (Ax : α → Go.Act → World → Prop) (hAx : ∀ x a', OwnFrom w.heap.size (fun (_ : Unit) W => Ax x a' W))
    (hassign : ∀ (l : Nat) (pre : List α) (x : α) (W : World) (K : Go.Act → World → Prop), I pre W → (∀ a' W', KeepsFrom w.heap.size W W' → KpB nb Wr W W' → I pre W' → Ax x a' W' → K a' W') →
      assign.wpIn (F.inRound l) (n - 1 - 1) P (Exit.then K (fun _ _ _ => False)) { tmps := (ps.zip (encs x)).foldl (fun t (p, v) => t.setIfInBounds p v) a.tmps, defers := [] } W)
    (hbody : ∀ (l : Nat) (pre : List α) (x : α) (a' : Go.Act) (W : World), w.heap.size ≤ l → (∃ r, W.heap[l]? = some (.loop r)) → I pre W → Ax x a' W → pre.length < N → body.wpIn (F.inRound l) (n - 1 - 1) P (ownPostG w.heap.size (KpB nb Wr) I Ix (pre ++ [x]) W) a' W)
    (hdone : ∀ (D : Nat) (xs : List α) (W : World), w.heap.size ≤ D → S xs → I xs W → W.heap[D]? = some (.deferred (some [])) → Q .normal { a with defers := { target := .collected D, args := #[] } :: a.defers } W)
    (hstop : ∀ (D : Nat) (c : Code) (pre : List α) (W : World), w.heap.size ≤ D → Sp pre → Ix c pre W → W.heap[D]? = some (.deferred (some [])) → c.wpIn F n P Q { a with defers := { target := .collected D, args := #[] } :: a.defers } W) :
    (Code.rangeFunc g ps assign body).wpIn F n P Q a w := by
  refine wpIn_rangeFunc fun fn hfn => ?_
  rw [hro]
  generalize hB : w.heap.size = B at *
  let rc : LoopState → Option Code → Loop := fun st pe => { state := st, pending := pe, fn, tmps := a.tmps, params := ps, assign, body, defers := B }
  have hst : ∀ st pe, (rc st pe).state = st := fun _ _ => rfl
  obtain ⟨Z, hZ⟩ : ∃ Z, (w.alloc (.deferred (some []))).alloc (.loop (rc .ready none)) = Z := ⟨_, rfl⟩
  have hzs : Z.heap.size = B + 2 := by rw [← hZ]; simp [hB]
  have hzr : Z.heap[B + 1]? = some (.loop (rc .ready none)) := by
    have := World.alloc_heap_new (w.alloc (.deferred (some []))) (.loop (rc .ready none))
    rw [World.size_alloc, hB] at this
    rw [← hZ]; exact this
  have hzd : Z.heap[B]? = some (.deferred (some [])) := by
    have := World.alloc_heap_new w (.deferred (some []))
    rw [hB] at this
    rw [← hZ]
    exact (Below.heap_alloc _ _ _ (by rw [World.size_alloc]; omega)).trans this
  have hzb : Below B w Z := by
    rw [← hZ]
    exact ((Below.refl B w).alloc (by omega) _).alloc (by rw [World.size_alloc]; omega) _
  have hz0 : I [] Z := by rw [← hZ]; exact hI.alloc _ (hI.alloc _ h0)
  -- the invariant with the two blocks of the loop
  let Jn : List α → World → Prop := fun pre X => I pre X ∧ X.heap[B + 1]? = some (.loop (rc .ready none)) ∧ X.heap[B]? = some (.deferred (some []))
  let Jd : List α → World → Prop := fun pre X => ∃ c, Ix c pre X ∧ X.heap[B + 1]? = some (.loop (rc .done (some c))) ∧ X.heap[B]? = some (.deferred (some []))
  have lift : ∀ {X : World} {row : Option Nat}, (∀ r, row = some r → Z.heap.size ≤ r ∧ ∃ o : Obj, X.heap[r]? = some o ∧ o.isCells = false) → ∀ r, row = some r → B ≤ r ∧ ∃ o : Obj, X.heap[r]? = some o ∧ o.isCells = false := fun h r e => by
    obtain ⟨k1, o, k2, k3⟩ := h r e
    exact ⟨by omega, o, k2, k3⟩
  refine ⟨B + 1, [{ target := .collected B, args := #[] }], Z, { target := .fn (.func gf) lb, args := #[.func (.yield (B + 1)) #[] #[]] }, Z, gf, #[.func (.yield (B + 1)) #[] #[]] ++ lb, Z, ?_, ?_, ?_, ?_, fun _ => h1, ?_⟩
  · have e := run_enterLoop_outer (P := P) (w := w) fn a.tmps ps assign body
    rw [hB] at e
    rw [← hZ]
    exact e
  · simp only [resolve, hg]
    simp [go_sem]
  · intro f' hf'; simp [Target.leads] at hf'; subst hf'; exact hFg
  · simp [invoke, go_sem, eg]
  have hcall := hseq Jn Jd Z (by rw [hB]; exact hzb) (by rw [hB, hzs]; exact Nat.le_refl _)
    (fun pre X Y row h hg' hr => ⟨hI pre X Y row h.1 hg' (lift hr), row_keeps hg' h.2.1 (fun r e => by have := (hr r e).1; omega), row_keeps hg' h.2.2 (fun r e => by have := (hr r e).1; omega)⟩)
    (fun pre X Y row h hg' hr => by
      obtain ⟨c, hc, k1, k2⟩ := h
      exact ⟨c, hIx c pre X Y row hc hg' (lift hr), row_keeps hg' k1 (fun r e => by have := (hr r e).1; omega), row_keeps hg' k2 (fun r e => by have := (hr r e).1; omega)⟩)
  rw [hB] at hcall
  refine (hcall ?_ ⟨hz0, hzr, hzd⟩).mono ?_
  · rintro pre x X ⟨hi, hr, hd⟩ hlen
    have hy := run_yield (P := P) (args := encs x) hr (hps x)
    refine ⟨fn, _, assign, body, hy, roundIn_of_wpIn hfn (hassign _ pre x X _ hi ?_)⟩
    intro a' Y hkf hkb hiy hax
    have hr1 := hkf.same _ _ (by omega) hr rfl
    have hd1 := hkf.same _ _ (Nat.le_refl _) hd rfl
    have hlt : B + 1 < Y.heap.size := (Array.getElem?_eq_some_iff.1 hr1).1
    refine ⟨_, run_beginRound hr1 rfl, ?_⟩
    have hr2 : (Y.putObj (B + 1) (.loop { rc .ready none with state := .busy })).heap[B + 1]? = some (.loop { rc .ready none with state := .busy }) := World.putObj_heap_same hlt
    have hd2 : (Y.putObj (B + 1) (.loop { rc .ready none with state := .busy })).heap[B]? = some (.deferred (some [])) := (World.putObj_heap_other (by omega)).trans hd1
    have hq2 : RoundKeeps nb Wr (B + 1) X (Y.putObj (B + 1) (.loop { rc .ready none with state := .busy })) := (hkb.round _).trans (RoundKeeps.put Y _ _ hr1 (by omega))
    have hq3 : RoundOthers B (B + 1) X (Y.putObj (B + 1) (.loop { rc .ready none with state := .busy })) := (RoundOthers.of_from hkf).trans (RoundOthers.put Y _)
    refine wpIn_mono (hbody _ pre x a' _ (by omega) ⟨_, hr2⟩ (hI.putObj _ hiy (by omega) hr1 rfl) ((hAx x a').putObj (s := ()) _ hax (by omega) hr1 rfl) hlen) ?_
    have fin : ∀ (jump : Option Code) (V : World), KeepsFrom B (Y.putObj (B + 1) (.loop { rc .ready none with state := .busy })) V →
        (Instr.endRound (B + 1) jump).run P V = .ok (.bool jump.isNone) (V.putObj (B + 1) (.loop (rc (if jump.isNone then .ready else .done) jump))) ∧
        V.heap[B + 1]? = some (.loop { rc .ready none with state := .busy }) ∧
        (V.putObj (B + 1) (.loop (rc (if jump.isNone then .ready else .done) jump))).heap[B + 1]? = some (.loop (rc (if jump.isNone then .ready else .done) jump)) ∧
        (V.putObj (B + 1) (.loop (rc (if jump.isNone then .ready else .done) jump))).heap[B]? = some (.deferred (some [])) := fun jump V hv => by
      have hr3 := hv.same _ _ (by omega) hr2 rfl
      exact ⟨run_endRound (P := P) jump hr3, hr3, World.putObj_heap_same (Array.getElem?_eq_some_iff.1 hr3).1, (World.putObj_heap_other (by omega)).trans (hv.same _ _ (Nat.le_refl _) hd2 rfl)⟩
    rintro e a3 V hp
    cases e with
    | normal =>
      obtain ⟨q1, q2, q3⟩ := hp
      obtain ⟨s1, s2, s3, s4⟩ := fin none V q1
      exact ⟨_, _, s1, .inl ⟨rfl, ⟨hI.putObj _ q3 (by omega) s2 rfl, s3, s4⟩, hq2.trans ((q2.round _).trans (RoundKeeps.put V _ _ s2 (by omega)))⟩⟩
    | ret =>
      obtain ⟨q1, q3⟩ := hp
      obtain ⟨s1, s2, s3, s4⟩ := fin (some .ret) V q1
      exact ⟨_, _, s1, .inr ⟨rfl, ⟨.ret, (hIx _).putObj _ q3 (by omega) s2 rfl, s3, s4⟩, hq3.trans ((RoundOthers.of_from q1).trans (RoundOthers.put V _))⟩⟩
    | exit id =>
      obtain ⟨q1, q3⟩ := hp
      obtain ⟨s1, s2, s3, s4⟩ := fin (some (.exit id)) V q1
      exact ⟨_, _, s1, .inr ⟨rfl, ⟨.exit id, (hIx _).putObj _ q3 (by omega) s2 rfl, s3, s4⟩, hq3.trans ((RoundOthers.of_from q1).trans (RoundOthers.put V _))⟩⟩
    | goto t =>
      obtain ⟨q1, q3⟩ := hp
      obtain ⟨s1, s2, s3, s4⟩ := fin (some (.goto t)) V q1
      exact ⟨_, _, s1, .inr ⟨rfl, ⟨.goto t, (hIx _).putObj _ q3 (by omega) s2 rfl, s3, s4⟩, hq3.trans ((RoundOthers.of_from q1).trans (RoundOthers.put V _))⟩⟩
    | panic ch => exact hp.elim
    | outgrown => exact hp.elim
  · rintro e V ⟨⟨v, rfl⟩, (⟨ys, hS, hi, hr, hd⟩ | ⟨pre, hSp, c, hi, hr, hd⟩)⟩
    · exact ⟨none, _, run_endLoop (P := P) hr (by simp [hst]), hdone _ ys _ (Nat.le_refl _) hS (hI.putObj _ hi (by omega) hr rfl) ((World.putObj_heap_other (by omega)).trans hd)⟩
    · exact ⟨some c, _, run_endLoop (P := P) hr (by simp [hst]), hstop _ c pre _ (Nat.le_refl _) hSp ((hIx c).putObj _ hi (by omega) hr rfl) ((World.putObj_heap_other (by omega)).trans hd)⟩
end Go.Proofs.YtamjllakfgphnaaGreatDoor
namespace Go.Proofs.YtamjllakfgphnaaGreatDoor
open Go.RowKit
set_option linter.unusedSimpArgs false
set_option linter.unusedVariables false
theorem own_cells {α : Type} {f : α → List Value} {s : Nat} (hf : ∀ x, (f x).length = s) {w : World} {base g c : Nat} {e : TypeId} {n : Nat} {l : List α} (h : w.ownsRow base e s (.slice (some ⟨g, 0, none⟩) n c) n (l.flatMap f)) {k : Nat} (hk : k < l.length) {x : α} (hx : l[k] = x) : ∀ j y, (f x)[j]? = some y → w.cell? ⟨g, k * s + j, none⟩ = some y := by
  intro j y hy
  have hj : j < s := by
    rcases Nat.lt_or_ge j s with h | h
    · exact h
    · rw [List.getElem?_eq_none (by rw [hf]; exact h)] at hy; cases hy
  have h2 := h.cells (g := g) rfl (k * s + j) y ((fm_get hf l k hk j hj).trans (by rw [hx]; exact hy))
  rw [add_off, Nat.zero_add] at h2
  exact h2
theorem own_frozen {w : World} {base g c e s n : Nat} {xs : List Value} (h : w.ownsRow base e s (.slice (some ⟨g, 0, none⟩) n c) n xs) (i : Nat) : w.frozen? ⟨g, i, none⟩ = false := by
  obtain ⟨_, ⟨h2, _⟩ | ⟨g', cap, cur, hv, _, hh, _⟩⟩ := h
  · cases h2
  · injection hv with hv
    injection hv with hv
    injection hv with hv
    subst hv
    exact Blk.frozen (show Blk w g e cur from hh) i
theorem set5 {α : Type} (A R : List α) (m : Nat) (hA : A.length = m) (b0 b1 b2 b3 b4 u0 u1 u2 u3 u4 : α) : (((((A ++ [b0, b1, b2, b3, b4] ++ R).set m u0).set (m + 1) u1).set (m + 2) u2).set (m + 3) u3).set (m + 4) u4 = A ++ [u0, u1, u2, u3, u4] ++ R := by
  subst hA
  simp [List.set_append]
theorem own_swap {w : World} {base g c n q : Nat} {p0 p2 r : List Nm} {x y : Nm} (h : w.ownsRow base 26 5 (.slice (some ⟨g, 0, none⟩) n c) n ((p0 ++ [y] ++ x :: p2 ++ r).flatMap nmC)) (hq : p0.length = q) :
    ((((((((((w.setCell ⟨g, (q + 1) * 5, none⟩ (.int .i64 y.kind)).setCell ⟨g, (q + 1) * 5 + 1, none⟩ (.string (bs y.owner))).setCell ⟨g, (q + 1) * 5 + 2, none⟩ (.int .i64 y.num)).setCell ⟨g, (q + 1) * 5 + 3, none⟩ (.int .i64 y.idx)).setCell ⟨g, (q + 1) * 5 + 4, none⟩ (.string (bs y.text))).setCell ⟨g, q * 5, none⟩ (.int .i64 x.kind)).setCell ⟨g, q * 5 + 1, none⟩ (.string (bs x.owner))).setCell ⟨g, q * 5 + 2, none⟩ (.int .i64 x.num)).setCell ⟨g, q * 5 + 3, none⟩ (.int .i64 x.idx)).setCell ⟨g, q * 5 + 4, none⟩ (.string (bs x.text))).ownsRow base 26 5 (.slice (some ⟨g, 0, none⟩) n c) n ((p0 ++ x :: (y :: p2) ++ r).flatMap nmC) ∧ w.grownBy ((((((((((w.setCell ⟨g, (q + 1) * 5, none⟩ (.int .i64 y.kind)).setCell ⟨g, (q + 1) * 5 + 1, none⟩ (.string (bs y.owner))).setCell ⟨g, (q + 1) * 5 + 2, none⟩ (.int .i64 y.num)).setCell ⟨g, (q + 1) * 5 + 3, none⟩ (.int .i64 y.idx)).setCell ⟨g, (q + 1) * 5 + 4, none⟩ (.string (bs y.text))).setCell ⟨g, q * 5, none⟩ (.int .i64 x.kind)).setCell ⟨g, q * 5 + 1, none⟩ (.string (bs x.owner))).setCell ⟨g, q * 5 + 2, none⟩ (.int .i64 x.num)).setCell ⟨g, q * 5 + 3, none⟩ (.int .i64 x.idx)).setCell ⟨g, q * 5 + 4, none⟩ (.string (bs x.text))) (some g) := by
  have e1 : (p0 ++ [y] ++ x :: p2 ++ r).flatMap nmC = ((p0 ++ [y]).flatMap nmC) ++ [.int .i64 x.kind, .string (bs x.owner), .int .i64 x.num, .int .i64 x.idx, .string (bs x.text)] ++ ((p2 ++ r).flatMap nmC) := by simp [nmC]
  have e2 : ((p0 ++ [y]).flatMap nmC) ++ [Value.int .i64 y.kind, .string (bs y.owner), .int .i64 y.num, .int .i64 y.idx, .string (bs y.text)] ++ ((p2 ++ r).flatMap nmC) = (p0.flatMap nmC) ++ [.int .i64 y.kind, .string (bs y.owner), .int .i64 y.num, .int .i64 y.idx, .string (bs y.text)] ++ (nmC y ++ (p2 ++ r).flatMap nmC) := by simp [nmC]
  have e3 : (p0 ++ x :: (y :: p2) ++ r).flatMap nmC = (p0.flatMap nmC) ++ [.int .i64 x.kind, .string (bs x.owner), .int .i64 x.num, .int .i64 x.idx, .string (bs x.text)] ++ (nmC y ++ (p2 ++ r).flatMap nmC) := by simp [nmC]
  have l1 : ((p0 ++ [y]).flatMap nmC).length = (q + 1) * 5 := by rw [fm_len nmC_len]; simp [hq]
  have l2 : (p0.flatMap nmC).length = q * 5 := by rw [fm_len nmC_len, hq]
  have a0 := h.stored ((q + 1) * 5) (.int .i64 y.kind)
  have a1 := a0.1.stored ((q + 1) * 5 + 1) (.string (bs y.owner))
  have a2 := a1.1.stored ((q + 1) * 5 + 2) (.int .i64 y.num)
  have a3 := a2.1.stored ((q + 1) * 5 + 3) (.int .i64 y.idx)
  have a4 := a3.1.stored ((q + 1) * 5 + 4) (.string (bs y.text))
  have b0 := a4.1.stored (q * 5) (.int .i64 x.kind)
  have b1 := b0.1.stored (q * 5 + 1) (.string (bs x.owner))
  have b2 := b1.1.stored (q * 5 + 2) (.int .i64 x.num)
  have b3 := b2.1.stored (q * 5 + 3) (.int .i64 x.idx)
  have b4 := b3.1.stored (q * 5 + 4) (.string (bs x.text))
  refine ⟨?_, grown_trans a0.2 (grown_trans a1.2 (grown_trans a2.2 (grown_trans a3.2 (grown_trans a4.2 (grown_trans b0.2 (grown_trans b1.2 (grown_trans b2.2 (grown_trans b3.2 b4.2))))))))⟩
  have := b4.1
  rw [e1, set5 _ _ _ l1, e2, set5 _ _ _ l2, ← e3] at this
  exact this
def InsP (base : Nat) (v : Value) (n : Nat) (l : List Nm) (w : World) (e : Ending) (w' : World) : Prop :=
  e = .returned (.tuple #[]) ∧ ∃ l' : List Nm, l'.Perm l ∧ Weak cmpN l' ∧ w'.ownsRow base 26 5 v n (l'.flatMap nmC) ∧ w.grownBy w' v.ownBlock
def InsRel (base : Nat) (v : Value) (n : Nat) (l : List Nm) (w : World) (i : Value) (wr : World) : Prop :=
  ∃ (k : Nat) (l' : List Nm), i = .int .i64 k ∧ 1 ≤ k ∧ k ≤ n + 1 ∧ l'.Perm l ∧ Weak cmpN (l'.take k) ∧ wr.ownsRow base 26 5 v n (l'.flatMap nmC) ∧ w.grownBy wr v.ownBlock
def InsIn (base : Nat) (v : Value) (n k : Nat) (l : List Nm) (w : World) (j : Value) (wr : World) : Prop :=
  ∃ (q : Nat) (p1 p2 r : List Nm) (x : Nm), j = .int .i64 (q : Int) ∧ p1.length = q ∧ q + p2.length = k ∧ k < n ∧ (p1 ++ x :: p2 ++ r).Perm l ∧ Weak cmpN (p1 ++ p2) ∧ (∀ e ∈ p2, cmpN x e < 0) ∧ wr.ownsRow base 26 5 v n ((p1 ++ x :: p2 ++ r).flatMap nmC) ∧ w.grownBy wr v.ownBlock
set_option maxRecDepth 100000 in
set_option maxHeartbeats 1000000 in
theorem insertion_is {w : World} {base g c n : Nat} {l : List Nm} (h : w.ownsRow base 26 5 (.slice (some ⟨g, 0, none⟩) n c) n (l.flatMap nmC)) (hn : l.length = n) (hl : n ≤ 12) (ho : ∀ a ∈ l, OwnE a) (hb : base ≤ w.heap.size) :
    Calls Tryz.prog 178 #[.slice (some ⟨g, 0, none⟩) n c, .int .i64 0, .int .i64 n, .func (.func 57) #[] #[]] w (InsP base (.slice (some ⟨g, 0, none⟩) n c) n l w) := by
  have H0 : Hid (InsRel base (.slice (some ⟨g, 0, none⟩) n c) n l w (.int .i64 (1 : Nat)) w) := Lib.hid ⟨1, l, rfl, Nat.le_refl _, by omega, List.Perm.refl _, by
    cases l with
    | nil => simp [Weak]
    | cons a r => simp [Weak], h, World.grownBy.refl _ _⟩
  have HO := Lib.hid ho
  clear h ho
  go_enter Tryz.func178, Tryz.ntmps178
  go_wp2
  go_loopw [8] (fun i wr => InsRel base (.slice (some ⟨g, 0, none⟩) n c) n l w i wr) (fun i _ => n + 1 - (intOf i).toNat)
  case atStart => exact H0.out
  case round =>
    clear H0
    obtain ⟨k, l', rfl, hk1, hk, hp, hw, hown, hg⟩ := hrel
    obtain ⟨wo, rfl⟩ : ∃ wo : World, wo = wr := ⟨_, rfl⟩
    have HP := Lib.hid hp
    have HW := Lib.hid hw
    have HR := Lib.hid hown
    have HG := Lib.hid hg
    clear hp hw hown hg
    by_cases hlt : k < n
    · have H1 : Hid (InsIn base (.slice (some ⟨g, 0, none⟩) n c) n k l w (.int .i64 k) wo) := Lib.hid (by
        have hl' : l'.length = n := by rw [HP.out.length_eq, hn]
        have hkl : k < l'.length := by omega
        have e : l' = l'.take k ++ l'[k] :: [] ++ l'.drop (k + 1) := by rw [List.append_assoc, List.cons_append, List.nil_append, ← List.drop_eq_getElem_cons hkl, List.take_append_drop]
        refine ⟨k, l'.take k, [], l'.drop (k + 1), l'[k], rfl, by rw [List.length_take, Nat.min_eq_left (by omega)], rfl, hlt, by rw [← e]; exact HP.out, by rw [List.append_nil]; exact HW.out, by simp, by rw [← e]; exact HR.out, HG.out⟩)
      clear HP HW HR HG
      go_wp2
      go_loopw [9] (fun j wr => InsIn base (.slice (some ⟨g, 0, none⟩) n c) n k l w j wr) (fun j _ => (intOf j).toNat)
      case atStart => exact H1.out
      case round =>
        clear H1
        obtain ⟨q, p1, p2, r, x, rfl, hq, hjk, hkn, hp, hw, hx, hown, hg⟩ := hrel
        have HP := Lib.hid hp
        have HW := Lib.hid hw
        have HX := Lib.hid hx
        have HR := Lib.hid hown
        have HG := Lib.hid hg
        clear hp hw hx hg
        cases q with
        | zero =>
          obtain rfl := List.length_eq_zero_iff.1 hq
          go_wp2_with fail
          go_quiet (fail)
          have HR2 := Lib.hid (own_next HR.out (below_drewN (Below.refl wr.heap.size wr) nq))
          have HG2 := Lib.hid (only_drewN HG.out nq)
          clear HR HG hown
          generalize World.drewN wr nq = w2 at *
          go_wp2
          go_roundw
          case rel =>
            refine ⟨k + 1, [] ++ x :: p2 ++ r, by go_num, by omega, by omega, HP.out, ?_, HR2.out, HG2.out⟩
            have e : ([] ++ x :: p2 ++ r).take (k + 1) = x :: p2 := by
              have hk2 : p2.length = k := by simpa using hjk
              rw [List.nil_append, List.cons_append, List.take_succ_cons, ← hk2, List.take_left]
            rw [e]
            exact List.pairwise_cons.2 ⟨fun e he => Int.le_of_lt (HX.out e he), by have := HW.out; unfold Weak at this; simpa using this⟩
          case measure => simp [intOf]; omega
        | succ q =>
          obtain ⟨p0, y, rfl⟩ : ∃ p0 y, p1 = p0 ++ [y] := ⟨p1.dropLast, p1.getLast (by rintro rfl; simp at hq), (List.dropLast_concat_getLast _).symm⟩
          have hq0 : p0.length = q := by simpa using hq
          have hlen : (p0 ++ [y] ++ x :: p2 ++ r).length = n := by rw [HP.out.length_eq, hn]
          have gy : (p0 ++ [y] ++ x :: p2 ++ r)[q]'(by rw [hlen]; omega) = y := by
            simp only [List.append_assoc]
            rw [List.getElem_append_right (by omega)]
            simp [hq0]
          have gx : (p0 ++ [y] ++ x :: p2 ++ r)[q + 1]'(by rw [hlen]; omega) = x := by
            simp only [List.append_assoc]
            rw [List.getElem_append_right (by omega)]
            simp [hq0]
          have cy := own_cells nmC_len hown (by rw [hlen]; omega) gy
          have cx := own_cells nmC_len hown (by rw [hlen]; omega) gx
          have x0 := cx 0 _ rfl
          have x1 := cx 1 _ rfl
          have x2 := cx 2 _ rfl
          have x3 := cx 3 _ rfl
          have x4 := cx 4 _ rfl
          have y0 := cy 0 _ rfl
          have y1 := cy 1 _ rfl
          have y2 := cy 2 _ rfl
          have y3 := cy 3 _ rfl
          have y4 := cy 4 _ rfl
          have i1 : (0 : Int) ≤ (q : Int) + 1 := by omega
          have i2 : (q : Int) + 1 < (n : Int) := by omega
          have i3 : (0 : Int) ≤ (q : Int) := by omega
          have i4 : (q : Int) < (n : Int) := by omega
          have e0 : decide ((0 : Int) < (q : Int) + 1) = true := by rw [decide_eq_true_eq]; omega
          have ox : OwnE x := HO.out x (HP.out.mem_iff.1 (by simp))
          have oy : OwnE y := HO.out y (HP.out.mem_iff.1 (by simp))
          have HC := Lib.hid (compare_is x y wr.drew (ox.trans oy.symm))
          have HQ := Lib.hid hq0
          clear cx cy gx gy hq hq0 hown hlen
          rw [show ((q + 1 : Nat) : Int) = (q : Int) + 1 by omega]
          simp only [Nat.add_zero] at x0 y0
          have ew : IntKind.i64.wrap (q : Int) = (q : Int) := IntWalk.i64_in _ (by omega)
          go_wp2_with fail
          refine wp_region_still_tail 14 (by kernel_rfl) (by kernel_rfl) ?_
          simp only [List.take_succ_cons, List.take_zero, List.drop_succ_cons, List.drop_zero]
          iterate 14 still_step
          refine wpStill_nil ?_
          show wpList _ _ _ _ _ wr.drew
          clear x0 x1 x2 x3 x4 y0 y1 y2 y3 y4 ew
          go_wp2_with fail
          refine HC.out.mono ?_
          rintro e w2 ⟨rfl, hb⟩
          have hb2 := (Below.refl wr.heap.size wr).drew.trans hb
          have HR2 := Lib.hid (own_next HR.out hb2)
          have HG2 := Lib.hid (grown_trans HG.out (only_of_below hb2 _))
          clear hb hb2 HR HG HC
          by_cases hc : cmpN x y < 0
          · have e1 : decide (cmpN x y < 0) = true := by rw [decide_eq_true_eq]; exact hc
            have HC := Lib.hid hc
            have hown := HR2.out
            have hlen : (p0 ++ [y] ++ x :: p2 ++ r).length = n := by rw [HP.out.length_eq, hn]
            have gy : (p0 ++ [y] ++ x :: p2 ++ r)[q]'(by rw [hlen]; omega) = y := by
              simp only [List.append_assoc]
              rw [List.getElem_append_right (by have := HQ.out; omega)]
              simp [HQ.out]
            have gx : (p0 ++ [y] ++ x :: p2 ++ r)[q + 1]'(by rw [hlen]; omega) = x := by
              simp only [List.append_assoc]
              rw [List.getElem_append_right (by have := HQ.out; omega)]
              simp [HQ.out]
            have cy := own_cells nmC_len hown (by rw [hlen]; omega) gy
            have cx := own_cells nmC_len hown (by rw [hlen]; omega) gx
            have x0 := cx 0 _ rfl
            have x1 := cx 1 _ rfl
            have x2 := cx 2 _ rfl
            have x3 := cx 3 _ rfl
            have x4 := cx 4 _ rfl
            have y0 := cy 0 _ rfl
            have y1 := cy 1 _ rfl
            have y2 := cy 2 _ rfl
            have y3 := cy 3 _ rfl
            have y4 := cy 4 _ rfl
            simp only [Nat.add_zero] at x0 y0
            have ew : IntKind.i64.wrap (q : Int) = (q : Int) := IntWalk.i64_in _ (by omega)
            have f0 := own_frozen HR2.out ((q + 1) * 5)
            have f1 := own_frozen HR2.out ((q + 1) * 5 + 1)
            have f2 := own_frozen HR2.out ((q + 1) * 5 + 2)
            have f3 := own_frozen HR2.out ((q + 1) * 5 + 3)
            have f4 := own_frozen HR2.out ((q + 1) * 5 + 4)
            have g0 := own_frozen HR2.out (q * 5)
            have g1 := own_frozen HR2.out (q * 5 + 1)
            have g2 := own_frozen HR2.out (q * 5 + 2)
            have g3 := own_frozen HR2.out (q * 5 + 3)
            have g4 := own_frozen HR2.out (q * 5 + 4)
            have n0 : ∀ i j : Nat, i < 5 → j < 5 → ¬ ((q + 1) * 5 + i = q * 5 + j) := fun i j hi hj => by omega
            generalize cmpN x y = cc at e1
            clear hc cx cy gx gy hlen hown
            go_wp2_with fail
            go_region
            clear x0 x1 x2 x3 x4 y0 y1 y2 y3 y4 f0 f1 f2 f3 f4 g0 g1 g2 g3 g4 n0
            obtain ⟨s1, s2⟩ := own_swap HR2.out HQ.out
            have HR3 := Lib.hid s1
            have HG3 := Lib.hid (grown_trans HG2.out s2)
            clear s1 s2 HR2 HG2
            generalize ((((((((((w2.setCell ⟨g, (q + 1) * 5, none⟩ (.int .i64 y.kind)).setCell ⟨g, (q + 1) * 5 + 1, none⟩ (.string (bs y.owner))).setCell ⟨g, (q + 1) * 5 + 2, none⟩ (.int .i64 y.num)).setCell ⟨g, (q + 1) * 5 + 3, none⟩ (.int .i64 y.idx)).setCell ⟨g, (q + 1) * 5 + 4, none⟩ (.string (bs y.text))).setCell ⟨g, q * 5, none⟩ (.int .i64 x.kind)).setCell ⟨g, q * 5 + 1, none⟩ (.string (bs x.owner))).setCell ⟨g, q * 5 + 2, none⟩ (.int .i64 x.num)).setCell ⟨g, q * 5 + 3, none⟩ (.int .i64 x.idx)).setCell ⟨g, q * 5 + 4, none⟩ (.string (bs x.text))) = w3 at *
            go_wp2
            go_roundw
            case rel =>
              refine ⟨q, p0, y :: p2, r, x, by go_num, HQ.out, by rw [List.length_cons]; omega, hkn, ?_, by have := HW.out; rw [List.append_assoc] at this; exact this, fun e he => ?_, own_next HR3.out (Below.refl w3.heap.size w3).drew, only_drew HG3.out⟩
              · refine List.Perm.trans ?_ HP.out
                simp only [List.append_assoc]
                exact List.Perm.append_left _ (List.Perm.swap ..)
              · rcases List.mem_cons.1 he with rfl | he
                · exact HC.out
                · exact HX.out e he
            case measure => simp [intOf]
          · have e1 : decide (cmpN x y < 0) = false := by rw [decide_eq_false_iff_not]; exact hc
            have HC := Lib.hid hc
            generalize cmpN x y = cc at e1
            clear hc
            go_wp2_with fail
            go_roundw
            case rel =>
              refine ⟨k + 1, p0 ++ [y] ++ x :: p2 ++ r, by go_num, by omega, by omega, HP.out, ?_, HR2.out, HG2.out⟩
              rw [take_mid (p0 ++ [y]) p2 r x k (by rw [List.length_append, HQ.out]; simp; omega)]
              exact weak_exit ordN (fun a ha => HO.out a (HP.out.mem_iff.1 (List.mem_append_left _ ha))) HW.out HX.out (by have := HC.out; omega)
            case measure => simp [intOf]; omega
    · have HN := Lib.hid (show k = n ∨ k = n + 1 by omega)
      go_wp2
      go_end0
      refine ⟨rfl, l', HP.out, ?_, HR.out, HG.out⟩
      have hl' : l'.length = n := by rw [HP.out.length_eq, hn]
      have := HW.out
      rwa [List.take_of_length_le (by omega)] at this
end Go.Proofs.YtamjllakfgphnaaGreatDoor
namespace Go.Proofs.YtamjllakfgphnaaGreatDoor
open Go.RowKit
set_option linter.unusedSimpArgs false
set_option linter.unusedVariables false
set_option maxRecDepth 100000 in
set_option maxHeartbeats 1000000 in
theorem len64_is (n : Nat) (w : World) (h : n ≤ 12) : Calls Tryz.prog 114 #[.int .u64 n] w fun e w' => (∃ k : Int, e = .returned (.int .i64 k)) ∧ w = w' := by
  have hc : n = 0 ∨ n = 1 ∨ n = 2 ∨ n = 3 ∨ n = 4 ∨ n = 5 ∨ n = 6 ∨ n = 7 ∨ n = 8 ∨ n = 9 ∨ n = 10 ∨ n = 11 ∨ n = 12 := by omega
  clear h
  rcases hc with rfl | rfl | rfl | rfl | rfl | rfl | rfl | rfl | rfl | rfl | rfl | rfl | rfl
  all_goals
    go_enter Tryz.func114, Tryz.ntmps114
    go_wp2
    go_ret
    exact ⟨⟨_, rfl⟩, rfl⟩
theorem insertion_nil {w : World} {base : Nat} : Calls Tryz.prog 178 #[.slice none 0 0, .int .i64 0, .int .i64 0, .func (.func 57) #[] #[]] w (InsP base (.slice none 0 0) 0 [] w) := by
  go_enter Tryz.func178, Tryz.ntmps178
  go_wp2
  refine wp_loop_rounds 1 ?_
  rw [rounds_succ]
  go_wp2
  go_end0
  exact ⟨rfl, [], List.Perm.refl _, List.Pairwise.nil, World.ownsRow_nil _ _ _ _, World.grownBy.refl _ _⟩
theorem insertion_any {w : World} {base n : Nat} {v : Value} {l : List Nm} (h : w.ownsRow base 26 5 v n (l.flatMap nmC)) (hn : l.length = n) (hl : n ≤ 12) (ho : ∀ a ∈ l, OwnE a) (hb : base ≤ w.heap.size) :
    Calls Tryz.prog 178 #[v, .int .i64 0, .int .i64 n, .func (.func 57) #[] #[]] w (InsP base v n l w) := by
  rcases h.2 with ⟨rfl, h0⟩ | ⟨g, cap, cur, rfl, _⟩
  · subst h0
    obtain rfl := List.length_eq_zero_iff.1 hn
    exact insertion_nil
  · exact insertion_is h hn hl ho hb
theorem pdq_is {w : World} {base n : Nat} {v : Value} {l : List Nm} {k : Int} (h : w.ownsRow base 26 5 v n (l.flatMap nmC)) (hn : l.length = n) (hl : n ≤ 12) (ho : ∀ a ∈ l, OwnE a) (hb : base ≤ w.heap.size) :
    Calls Tryz.prog 134 #[v, .int .i64 0, .int .i64 n, .int .i64 k, .func (.func 57) #[] #[]] w (InsP base v n l w) := by
  have H := Lib.hid (insertion_any h hn hl ho hb)
  have e1 : decide (n ≤ 12) = true := by simpa using hl
  clear h ho
  go_enter Tryz.func134, Tryz.ntmps134
  go_wp2
  refine wp_loop_rounds 1 ?_
  rw [rounds_succ]
  go_wp2_with fail
  refine H.out.mono ?_
  rintro e w' ⟨rfl, l', h1, h2, h3, h4⟩
  go_wp2
  go_end0
  exact ⟨rfl, l', h1, h2, h3, h4⟩
theorem sortfunc_is {w : World} {base n : Nat} {v : Value} {l : List Nm} (h : w.ownsRow base 26 5 v n (l.flatMap nmC)) (hn : l.length = n) (hl : n ≤ 12) (ho : ∀ a ∈ l, OwnE a) (hb : base ≤ w.heap.size) :
    Calls Tryz.prog 97 #[v, .func (.func 57) #[] #[]] w (InsP base v n l w) := by
  have H := Lib.hid (fun k => pdq_is (k := k) h hn hl ho hb)
  have HL := Lib.hid (len64_is n w hl)
  obtain ⟨A, c, rfl, _⟩ := own_len h
  clear h ho
  go_enter Tryz.func97, Tryz.ntmps97
  go_wp2_with fail
  refine HL.out.mono ?_
  rintro e w' ⟨⟨k, rfl⟩, rfl⟩
  go_wp2_with fail
  refine (H.out k).mono ?_
  rintro e w' ⟨rfl, l', h1, h2, h3, h4⟩
  go_wp2
  go_end0
  exact ⟨rfl, l', h1, h2, h3, h4⟩
end Go.Proofs.YtamjllakfgphnaaGreatDoor
namespace Go.Proofs.YtamjllakfgphnaaGreatDoor
open Go.RowKit
set_option linter.unusedSimpArgs false
set_option linter.unusedVariables false
def ComP (v : Value) (w : World) (e : Ending) (w' : World) : Prop := e = .returned v ∧ ∃ k, w' = w.drewN k
set_option maxRecDepth 100000 in
set_option maxHeartbeats 1000000 in
theorem compact_is {w : World} {v : Value} {l : List Nm} (h : RdNm w v l) (hl : l.length ≤ 100000) (hd : l.Nodup) : Calls Tryz.prog 98 #[v] w (ComP v w) := by
  obtain ⟨A, c, rfl, hc⟩ := h.form
  have H := Lib.hid h
  have HD := Lib.hid hd
  clear h hd
  have hg := guardNm
  by_cases h2 : l.length < 2
  · go_enter Tryz.func98, Tryz.ntmps98
    go_wp2
    go_ret
    exact ⟨rfl, 0, rfl⟩
  · go_enter Tryz.func98, Tryz.ntmps98
    go_wp2
    go_loopw [3] (fun i wr => ∃ (k m : Nat), i = .int .i64 k ∧ 1 ≤ k ∧ k ≤ l.length ∧ wr = w.drewN m) (fun i _ => l.length - (intOf i).toNat)
    case atStart => exact ⟨1, 0, rfl, Nat.le_refl _, by omega, rfl⟩
    case round =>
      obtain ⟨k, m, rfl, hk1, hk, hw⟩ := hrel
      have HW := Lib.hid hw
      have HR := Lib.hid (show RdNm wr (.slice A l.length c) l by rw [hw]; exact H.out)
      clear hw
      by_cases hlt : k < l.length
      · obtain ⟨q, rfl⟩ : ∃ q, k = q + 1 := ⟨k - 1, by omega⟩
        obtain ⟨b, o, rfl, hbb, x0, x1, x2, x3, x4⟩ := RdNm.piece HR.out hlt
        obtain ⟨b', o', e, _, y0, y1, y2, y3, y4⟩ := RdNm.piece HR.out (k := q) (by omega)
        obtain ⟨rfl, rfl⟩ : b' = b ∧ o' = o := by
          injection e with e; injection e with e1 e2; exact ⟨e1.symm, e2.symm⟩
        clear e
        obtain ⟨x, hx⟩ : ∃ x, l[q + 1] = x := ⟨_, rfl⟩
        obtain ⟨y, hy⟩ : ∃ y, l[q]'(by omega) = y := ⟨_, rfl⟩
        have hne : x ≠ y := by
          rw [← hx, ← hy]
          intro he
          have := (List.pairwise_iff_getElem.1 HD.out) q (q + 1) (by omega) hlt (by omega)
          exact this he.symm
        have he := fun W => eqlNm x y false (by simp [hne]) W
        rw [hx] at x0 x1 x2 x3 x4
        rw [hy] at y0 y1 y2 y3 y4
        unfold nmV nmA at he
        have i1 : (0 : Int) ≤ (q : Int) + 1 := by omega
        have i2 : (q : Int) + 1 < (l.length : Int) := by omega
        have i3 : (0 : Int) ≤ (q : Int) := by omega
        have i4 : (q : Int) < (l.length : Int) := by omega
        have ew : IntKind.i64.wrap (q : Int) = (q : Int) := IntWalk.i64_in _ (by omega)
        rw [show ((q + 1 : Nat) : Int) = (q : Int) + 1 by omega]
        clear hx hy hne
        go_wp2_with fail
        go_quiet (fail)
        clear x0 x1 x2 x3 x4 y0 y1 y2 y3 y4 ew he
        have HW2 := Lib.hid (show World.drewN wr nq = w.drewN (m + nq) by rw [HW.out, World.drewN_drewN])
        generalize World.drewN wr nq = w2 at *
        go_wp2
        go_roundw
        case rel => exact ⟨q + 1 + 1, m + nq, by go_num, by omega, by omega, HW2.out⟩
        case measure => simp [intOf]; omega
      · obtain rfl : k = l.length := by omega
        go_wp2
        go_ret
        exact ⟨rfl, m, HW.out⟩
def SortP (l : List Nm) (w : World) (e : Ending) (w' : World) : Prop := ∃ v, e = .returned v ∧ w'.ownsRow w.heap.size 26 5 v (sortU cmpN l).length ((sortU cmpN l).flatMap nmC) ∧ Below w.heap.size w w'
theorem nm_one (l : List Nm) : ∀ u ∈ l.flatMap nmC, u.oneCell' = true := by
  intro u hu
  obtain ⟨p, _, h⟩ := List.mem_flatMap.1 hu
  simp [nmC] at h
  rcases h with rfl | rfl | rfl | rfl | rfl <;> rfl
set_option maxRecDepth 100000 in
theorem sort_is {w : World} {v : Value} {l : List Nm} (h : RdNm w v l) (hl : l.length ≤ 12) (hd : l.Nodup) (ho : ∀ a ∈ l, OwnE a) : Calls Tryz.prog 79 #[v] w (SortP l w) := by
  have HC := Lib.hid (cloneNm h (fm_len nmC_len l) (nm_one l) (by omega))
  have HD := Lib.hid hd
  have HO := Lib.hid ho
  clear h hd ho
  go_enter Tryz.func79, Tryz.ntmps79
  go_wp2_with fail
  refine HC.out.mono ?_
  rintro e w2 ⟨v2, rfl, hown, hb⟩
  have HB := Lib.hid hb
  have hbs := hb.size
  clear hb
  go_wp2_with fail
  refine (sortfunc_is hown rfl hl HO.out hbs).mono ?_
  rintro e w3 ⟨rfl, l', hp, hw, hown3, hg⟩
  have HN := Lib.hid (hp.nodup_iff.2 HD.out)
  have hl' : l'.length = l.length := hp.length_eq
  have HS := Lib.hid (show l' = sortU cmpN l by
    have hS : ∀ a ∈ l', OwnE a := fun a ha => HO.out a (hp.mem_iff.1 ha)
    rw [← sortU_perm ordN HO.out hp]
    exact (sortU_strict ordN hS (strict_of_weak ordN hS hw HN.out)).symm)
  have HB3 := Lib.hid (below_own HB.out hown hg (Nat.le_refl _) hbs)
  rw [← hl'] at hown3
  have HR := Lib.hid hown3
  clear hown hown3 hg hp hw
  go_wp2_with fail
  refine (compact_is (l := l') (Rd.of_own HR.out) (by omega) HN.out).mono ?_
  rintro e w4 ⟨rfl, m, rfl⟩
  go_wp2
  go_ret
  rw [HS.out] at HR
  exact ⟨v2, rfl, own_next HR.out (below_drewN (Below.refl _ _) m), below_drewN HB3.out m⟩
end Go.Proofs.YtamjllakfgphnaaGreatDoor
namespace Go.Proofs.YtamjllakfgphnaaGreatDoor
open Go.RowKit
set_option linter.unusedSimpArgs false
set_option linter.unusedVariables false
def NmP (n : Nm) (w : World) (e : Ending) (w' : World) : Prop := e = .returned (nmV n) ∧ Below w.heap.size w w'
theorem clock_is (w : World) : Calls Tryz.prog 75 #[] w (NmP obC w) := by
  go_enter Tryz.func75, Tryz.ntmps75
  go_wp2
  exact bodyPost_ret (v := nmV obC) (by simp [results, Tryz.results75, go_sem, nmV, nmA, obC, bs]) rfl ⟨rfl, (Below.refl _ _).alloc (Nat.le_refl _) _⟩
theorem terminal_is (n : Int) (w : World) : Calls Tryz.prog 74 #[.int .i64 n] w (NmP ⟨13, [], n, 0, []⟩ w) := by
  go_enter Tryz.func74, Tryz.ntmps74
  go_wp2
  exact bodyPost_ret (v := nmV ⟨13, [], n, 0, []⟩) (by simp [results, Tryz.results74, go_sem, nmV, nmA, bs]) rfl ⟨rfl, (Below.refl _ _).alloc (Nat.le_refl _) _⟩
theorem box_is (s : Bs) (w : World) : Calls Tryz.prog 36 #[.string (bs s)] w (NmP ⟨17, [], 0, 0, s⟩ w) := by
  go_enter Tryz.func36, Tryz.ntmps36
  go_wp2
  exact bodyPost_ret (v := nmV ⟨17, [], 0, 0, s⟩) (by simp [results, Tryz.results36, go_sem, nmV, nmA, bs]) rfl ⟨rfl, (Below.refl _ _).alloc (Nat.le_refl _) _⟩
end Go.Proofs.YtamjllakfgphnaaGreatDoor
namespace Go.Proofs.YtamjllakfgphnaaGreatDoor
open Go.RowKit
set_option linter.unusedSimpArgs false
set_option linter.unusedVariables false
attribute [local go_sem ↓] Go.wp_at_zero Go.wp_at_succ
def bt46 (s : ByteArray) (i : Nat) : Int := ((s.data.toList.getD i 0).toNat : Int)
theorem bt46_of (s : ByteArray) (i : Nat) (h : i < s.size) : (s[i].toNat : Int) = bt46 s i := by
  unfold bt46
  have h' : i < s.data.toList.length := by simpa using h
  rw [List.getD_eq_getElem?_getD, List.getElem?_eq_getElem h']
  rfl
theorem bt46_bd (s : ByteArray) (i : Nat) : 0 ≤ bt46 s i ∧ bt46 s i < 256 := by
  unfold bt46
  have := (s.data.toList.getD i 0).toNat_lt
  omega
def dig46 (n : Int) : Bool := decide (48 ≤ n) && decide (n ≤ 57)
def dgE (s : ByteArray) : Nat → Nat → Nat
  | 0, e => e
  | f + 1, e => if e < s.size ∧ dig46 (bt46 s e) = true then dgE s f (e + 1) else e
def dgO (s : ByteArray) : Nat → Nat → Int → Int
  | 0, _, o => o
  | f + 1, e, o => if e < s.size ∧ dig46 (bt46 s e) = true then dgO s f (e + 1) (o * 10 + (bt46 s e - 48)) else o
theorem dgE_le (s : ByteArray) : ∀ (f e : Nat), e ≤ s.size → e ≤ dgE s f e ∧ dgE s f e ≤ e + f ∧ dgE s f e ≤ s.size
  | 0, e, h => ⟨Nat.le_refl _, Nat.le_refl _, h⟩
  | f + 1, e, h => by
    unfold dgE
    by_cases hc : e < s.size ∧ dig46 (bt46 s e) = true
    · rw [if_pos hc]
      have := dgE_le s f (e + 1) hc.1
      omega
    · rw [if_neg hc]; omega
structure Pt where
  o : Int
  a : Int
  e : Int
deriving DecidableEq
def ptV (p : Pt) : Value := .agg #[.int .i64 p.o, .int .i64 p.a, .int .i64 p.e]
def errF (s : ByteArray) (a c : Nat) : Int := if c = 8 then 9 else if a = s.size then 4 else if dgE s 7 a = a then 6 else if bt46 s a = 48 then 3 else if 6 < dgE s 7 a - a then 2 else 0
def fstP (s : ByteArray) (a c : Nat) : Pt := if errF s a c = 0 then ⟨dgO s 7 a 0, a, 0⟩ else ⟨0, a, errF s a c⟩
def fstE (s : ByteArray) (a c : Nat) : Nat := if errF s a c = 0 then dgE s 7 a else a
theorem isdig_is (n : Int) (w : World) : Calls Tryz.prog 200 #[.int .u8 n] w fun e w' => e = .returned (.bool (dig46 n)) ∧ w = w' := by
  unfold dig46
  by_cases h1 : 48 ≤ n
  · have e1 : decide (48 ≤ n) = true := decide_eq_true h1
    go_enter Tryz.func200, Tryz.ntmps200
    go_wp2
    go_ret
    exact ⟨by rw [e1]; rfl, rfl⟩
  · have e1 : decide (48 ≤ n) = false := decide_eq_false h1
    go_enter Tryz.func200, Tryz.ntmps200
    go_wp2
    go_ret
    exact ⟨rfl, rfl⟩
def FstRel (s : ByteArray) (a : Nat) (w : World) (i8 i9 : Value) (wr : World) : Prop :=
  ∃ (j : Nat) (o : Int), i8 = .int .i64 ((a + j : Nat) : Int) ∧ i9 = .int .i64 o ∧ j ≤ 7 ∧ a + j ≤ s.size ∧ dgE s 7 a = dgE s (7 - j) (a + j) ∧ dgO s 7 a 0 = dgO s (7 - j) (a + j) o ∧ 0 ≤ o ∧ o < (10 : Int) ^ j ∧ wr = w
theorem pow10 {j : Nat} (h : j ≤ 6) : (10 : Int) ^ j ≤ 1000000 := by
  rcases (show j = 0 ∨ j = 1 ∨ j = 2 ∨ j = 3 ∨ j = 4 ∨ j = 5 ∨ j = 6 by omega) with rfl | rfl | rfl | rfl | rfl | rfl | rfl <;> decide
set_option maxRecDepth 100000 in
set_option maxHeartbeats 2000000 in
theorem lfirst_is {w : World} (s : ByteArray) {a c : Nat} (ha : a ≤ s.size) (ha2 : a ≤ 1000) (hc : c ≤ 8) : Calls Tryz.prog 164 #[.string s, .int .i64 a, .int .i64 c] w fun e w' => e = .returned (.tuple #[ptV (fstP s a c), .int .i64 (fstE s a c : Nat)]) ∧ Below w.heap.size w w' := by
  have rb := Blk.new w 213 #[.int .i64 0, .int .i64 0, .int .i64 0]
  have r0 := rb.cell 0
  have r1 := rb.cell 1
  have r2 := rb.cell 2
  have f0 := rb.frozen 0
  have f1 := rb.frozen 1
  have f2 := rb.frozen 2
  simp only [qB, qC, qD] at r0 r1 r2
  have HB := Lib.hid ((Below.refl w.heap.size w).alloc (Nat.le_refl _) (.cells #[.int .i64 0, .int .i64 0, .int .i64 0] 213))
  clear rb
  go_enter Tryz.func164, Tryz.ntmps164
  go_upto_region 1 with (fail)
  generalize w.alloc (.cells #[.int .i64 0, .int .i64 0, .int .i64 0] 213) = W at *
  generalize hcb : w.heap.size = cb at *
  have HCB := Lib.hid hcb
  clear hcb
  have H0 : Hid (FstRel s a W (.int .i64 a) (.int .i64 0) W) := Lib.hid ⟨0, 0, rfl, rfl, by omega, ha, rfl, rfl, by omega, by decide, rfl⟩
  go_upto_block 0 with (fail)
  go_cut [8, 9] (fun v8 v9 wx => v8 = .int .i64 (dgE s 7 a : Nat) ∧ v9 = .int .i64 (dgO s 7 a 0) ∧ wx = W)
  case first =>
    go_wp2_with fail
    go_loopw [8, 9] (fun i8 i9 wr => FstRel s a W i8 i9 wr) (fun i8 _ _ => a + 7 - (intOf i8).toNat)
    case atStart => exact H0.out
    case round =>
      clear H0
      obtain ⟨j, ov, rfl, rfl, hj, hjs, hE, hO, ho0, ho1, rfl⟩ := hrel
      have HE := Lib.hid hE
      have HO := Lib.hid hO
      have HO1 := Lib.hid ho1
      clear hE hO ho1
      obtain ⟨p, hp⟩ : ∃ p, a + j = p := ⟨_, rfl⟩
      have HP := Lib.hid hp
      rw [hp] at HE HO hjs ⊢
      have hpa : p - a = j := by omega
      by_cases h1 : p < s.size
      · have e1 : decide ((p : Int) < (s.size : Int)) = true := decide_eq_true (by omega)
        by_cases h2 : j ≤ 6
        · have e2 : decide ((p : Int) - (a : Int) ≤ 6) = true := decide_eq_true (by omega)
          have ew : IntKind.i64.wrap ((p : Int) - (a : Int)) = (p : Int) - (a : Int) := IntWalk.i64_in _ (by omega)
          have hb := bt46_of s p h1
          have hbd := bt46_bd s p
          obtain ⟨b, hbv⟩ : ∃ b, bt46 s p = b := ⟨_, rfl⟩
          rw [hbv] at hb hbd
          have HBV := Lib.hid hbv
          have k1 : (0 : Int) ≤ (p : Int) := by omega
          have k2 : (p : Int) < (s.size : Int) := by omega
          have hov : ov < 1000000 := by have h10 := pow10 h2; have := HO1.out; omega
          clear hbv hp
          obtain ⟨d, hd⟩ : ∃ d, dig46 b = d := ⟨_, rfl⟩
          have HD := Lib.hid hd
          clear hd
          cases d with
          | true =>
            have hdd : 48 ≤ b ∧ b ≤ 57 := by have := HD.out; unfold dig46 at this; simpa using this
            have w1 : IntKind.i64.wrap (ov * 10) = ov * 10 := IntWalk.i64_in _ (by omega)
            have w2 : IntKind.u8.wrap (b - 48) = b - 48 := IntWalk.u8_in _ (by omega)
            have w3 : IntKind.i64.wrap (b - 48) = b - 48 := IntWalk.i64_in _ (by omega)
            have w4 : IntKind.i64.wrap (ov * 10 + (b - 48)) = ov * 10 + (b - 48) := IntWalk.i64_in _ (by omega)
            have hcond : p < s.size ∧ dig46 (bt46 s p) = true := ⟨h1, by rw [HBV.out]; exact HD.out⟩
            have HC := Lib.hid hcond
            clear hcond
            go_wp2_with (go_at_call 200; refine (isdig_is _ _).mono ?_; rintro e w' ⟨rfl, rfl⟩; rw [HD.out])
            go_roundw
            case rel =>
              have h7 : 7 - j = (7 - (j + 1)) + 1 := by omega
              refine ⟨j + 1, ov * 10 + (b - 48), by have := HP.out; congr 1; omega, rfl, by omega, by have := HP.out; omega, ?_, ?_, by omega, ?_, rfl⟩
              · rw [HE.out, h7, dgE, if_pos HC.out, ← HP.out]; rfl
              · rw [HO.out, h7, dgO, if_pos HC.out, HBV.out, ← HP.out]; rfl
              · have := HO1.out; rw [Int.pow_succ]; omega
            case measure => have := HP.out; simp [intOf]; omega
          | false =>
            have hcond : ¬ (p < s.size ∧ dig46 (bt46 s p) = true) := fun h => by rw [HBV.out, HD.out] at h; cases h.2
            have HC := Lib.hid hcond
            clear hcond
            go_wp2_with (go_at_call 200; refine (isdig_is _ _).mono ?_; rintro e w' ⟨rfl, rfl⟩; rw [HD.out])
            go_meet
            case rel =>
              have h7 : 7 - j = (7 - (j + 1)) + 1 := by omega
              exact ⟨by rw [HE.out, h7, dgE, if_neg HC.out], by rw [HO.out, h7, dgO, if_neg HC.out], rfl⟩
        · have e2 : decide ((p : Int) - (a : Int) ≤ 6) = false := decide_eq_false (by omega)
          have ew : IntKind.i64.wrap ((p : Int) - (a : Int)) = (p : Int) - (a : Int) := IntWalk.i64_in _ (by omega)
          have HJ7 := Lib.hid (show 7 - j = 0 by omega)
          clear hp
          go_wp2_with fail
          go_meet
          case rel => exact ⟨by rw [HE.out, HJ7.out]; rfl, by rw [HO.out, HJ7.out]; rfl, rfl⟩
      · have e1 : decide ((p : Int) < (s.size : Int)) = false := decide_eq_false (by omega)
        have HH := Lib.hid h1
        clear hp
        go_wp2_with fail
        go_meet
        case rel =>
          refine ⟨?_, ?_, rfl⟩
          · rw [HE.out]
            cases h7 : 7 - j with
            | zero => rfl
            | succ f => rw [dgE, if_neg fun h => HH.out h.1]
          · rw [HO.out]
            cases h7 : 7 - j with
            | zero => rfl
            | succ f => rw [dgO, if_neg fun h => HH.out h.1]
  case rest =>
    obtain ⟨rfl, rfl, hwx⟩ := hcut
    subst hwx
    clear H0
    obtain ⟨E, hE⟩ : ∃ E, dgE s 7 a = E := ⟨_, rfl⟩
    obtain ⟨O, hO⟩ : ∃ O, dgO s 7 a 0 = O := ⟨_, rfl⟩
    have hEl := dgE_le s 7 a ha
    rw [hE] at hEl
    obtain ⟨er, her⟩ : ∃ er, errF s a c = er := ⟨_, rfl⟩
    have HER := Lib.hid her
    have HP1 : Hid (er = 0 → fstP s a c = ⟨O, a, 0⟩ ∧ fstE s a c = E) := Lib.hid fun h => by
      unfold fstP fstE
      rw [her, if_pos h, if_pos h, hE, hO]
      exact ⟨rfl, rfl⟩
    have HP2 : Hid (er ≠ 0 → fstP s a c = ⟨0, a, er⟩ ∧ fstE s a c = a) := Lib.hid fun h => by
      unfold fstP fstE
      rw [her, if_neg h, if_neg h]
      exact ⟨rfl, rfl⟩
    have HF : Hid (er = if c = 8 then 9 else if a = s.size then 4 else if E = a then 6 else if bt46 s a = 48 then 3 else if 6 < E - a then 2 else 0) := Lib.hid (by rw [← her, ← hE]; rfl)
    rw [hE, hO]
    clear hE hO her
    by_cases q1 : c = 8
    · have e1 : ((c : Int) == 8) = true := by rw [beq_iff_eq]; omega
      have hf := HF.out
      rw [if_pos q1] at hf
      subst hf
      clear q1
      go_wp2_with fail
      have hp := HP2.out (by decide)
      exact bodyPost_ret (v := .tuple #[.agg #[.int .i64 0, .int .i64 a, .int .i64 9], .int .i64 a]) (by simp [results, Tryz.results164, go_sem, r0, r1, r2]) rfl ⟨by rw [hp.1, hp.2]; rfl, by rw [HCB.out]; exact (((HB.out.setCell (p := ⟨cb, 0, none⟩) (Nat.le_refl _) _).setCell (p := ⟨cb, 1, none⟩) (Nat.le_refl _) _).setCell (p := ⟨cb, 2, none⟩) (Nat.le_refl _) _)⟩
    · have e1 : ((c : Int) == 8) = false := by rw [beq_eq_false_iff_ne]; omega
      by_cases q2 : a = s.size
      · have e2 : ((a : Int) == (s.size : Int)) = true := by rw [beq_iff_eq]; omega
        have hf := HF.out
        rw [if_neg q1, if_pos q2] at hf
        subst hf
        clear q2
        go_wp2_with fail
        have hp := HP2.out (by decide)
        exact bodyPost_ret (v := .tuple #[.agg #[.int .i64 0, .int .i64 a, .int .i64 4], .int .i64 a]) (by simp [results, Tryz.results164, go_sem, r0, r1, r2]) rfl ⟨by rw [hp.1, hp.2]; rfl, by rw [HCB.out]; exact (((HB.out.setCell (p := ⟨cb, 0, none⟩) (Nat.le_refl _) _).setCell (p := ⟨cb, 1, none⟩) (Nat.le_refl _) _).setCell (p := ⟨cb, 2, none⟩) (Nat.le_refl _) _)⟩
      · have e2 : ((a : Int) == (s.size : Int)) = false := by rw [beq_eq_false_iff_ne]; omega
        by_cases q3 : E = a
        · have e3 : ((E : Int) == (a : Int)) = true := by rw [beq_iff_eq]; omega
          have hf := HF.out
          rw [if_neg q1, if_neg q2, if_pos q3] at hf
          subst hf
          clear q3
          go_wp2_with fail
          have hp := HP2.out (by decide)
          exact bodyPost_ret (v := .tuple #[.agg #[.int .i64 0, .int .i64 a, .int .i64 6], .int .i64 a]) (by simp [results, Tryz.results164, go_sem, r0, r1, r2]) rfl ⟨by rw [hp.1, hp.2]; rfl, by rw [HCB.out]; exact (((HB.out.setCell (p := ⟨cb, 0, none⟩) (Nat.le_refl _) _).setCell (p := ⟨cb, 1, none⟩) (Nat.le_refl _) _).setCell (p := ⟨cb, 2, none⟩) (Nat.le_refl _) _)⟩
        · have e3 : ((E : Int) == (a : Int)) = false := by rw [beq_eq_false_iff_ne]; omega
          have hb := bt46_of s a (by omega)
          have k1 : (0 : Int) ≤ (a : Int) := by omega
          have k2 : (a : Int) < (s.size : Int) := by omega
          have ew : IntKind.i64.wrap ((E : Int) - (a : Int)) = (E : Int) - (a : Int) := IntWalk.i64_in _ (by omega)
          obtain ⟨b, hbv⟩ : ∃ b, bt46 s a = b := ⟨_, rfl⟩
          rw [hbv] at hb
          have hf := HF.out
          rw [hbv] at hf
          clear hbv
          by_cases q4 : b = 48
          · have e4 : (b == 48) = true := by rw [beq_iff_eq]; exact q4
            rw [if_neg q1, if_neg q2, if_neg q3, if_pos q4] at hf
            subst hf
            clear q4
            go_wp2_with fail
            have hp := HP2.out (by decide)
            exact bodyPost_ret (v := .tuple #[.agg #[.int .i64 0, .int .i64 a, .int .i64 3], .int .i64 a]) (by simp [results, Tryz.results164, go_sem, r0, r1, r2]) rfl ⟨by rw [hp.1, hp.2]; rfl, by rw [HCB.out]; exact (((HB.out.setCell (p := ⟨cb, 0, none⟩) (Nat.le_refl _) _).setCell (p := ⟨cb, 1, none⟩) (Nat.le_refl _) _).setCell (p := ⟨cb, 2, none⟩) (Nat.le_refl _) _)⟩
          · have e4 : (b == 48) = false := by rw [beq_eq_false_iff_ne]; exact q4
            by_cases q5 : 6 < E - a
            · have e5 : decide ((6 : Int) < (E : Int) - (a : Int)) = true := decide_eq_true (by omega)
              rw [if_neg q1, if_neg q2, if_neg q3, if_neg q4, if_pos q5] at hf
              subst hf
              clear q5
              go_wp2_with fail
              have hp := HP2.out (by decide)
              exact bodyPost_ret (v := .tuple #[.agg #[.int .i64 0, .int .i64 a, .int .i64 2], .int .i64 a]) (by simp [results, Tryz.results164, go_sem, r0, r1, r2]) rfl ⟨by rw [hp.1, hp.2]; rfl, by rw [HCB.out]; exact (((HB.out.setCell (p := ⟨cb, 0, none⟩) (Nat.le_refl _) _).setCell (p := ⟨cb, 1, none⟩) (Nat.le_refl _) _).setCell (p := ⟨cb, 2, none⟩) (Nat.le_refl _) _)⟩
            · have e5 : decide ((6 : Int) < (E : Int) - (a : Int)) = false := decide_eq_false (by omega)
              rw [if_neg q1, if_neg q2, if_neg q3, if_neg q4, if_neg q5] at hf
              subst hf
              go_wp2_with fail
              have hp := HP1.out (by trivial)
              exact bodyPost_ret (v := .tuple #[.agg #[.int .i64 O, .int .i64 a, .int .i64 0], .int .i64 E]) (by simp [results, Tryz.results164, go_sem, r0, r1, r2]) rfl ⟨by rw [hp.1, hp.2]; rfl, by rw [HCB.out]; exact (((HB.out.setCell (p := ⟨cb, 0, none⟩) (Nat.le_refl _) _).setCell (p := ⟨cb, 1, none⟩) (Nat.le_refl _) _).setCell (p := ⟨cb, 2, none⟩) (Nat.le_refl _) _)⟩
end Go.Proofs.YtamjllakfgphnaaGreatDoor
namespace Go.Proofs.YtamjllakfgphnaaGreatDoor
open Go.RowKit Go.Shelf
set_option linter.unusedSimpArgs false
set_option linter.unusedVariables false
attribute [local go_sem] Oper.semAt_some
theorem room_of_none {F : Fence} (hd : F.depth = none) (k : Nat) : F.room k := fun d h => by rw [hd] at h; cases h
theorem RoundIn.anyDepth {F : Fence} (hd : F.depth = none) {m m' : Nat} {P : Program} {l : Nat} {f : FuncId} {tmps : Array Value} {assign body : Code} {w : World} {R : Ending → World → Prop}
    (h : RoundIn F m P l f tmps assign body w R) : RoundIn F m' P l f tmps assign body w R := ⟨h.1, fun c cs _ => h.2 c cs (room_of_none hd _)⟩
theorem YieldAt.anyDepth {F : Fence} (hd : F.depth = none) {m : Nat} (m' : Nat) {P : Program} {l : Nat} {args : Array Value} {W : World} {R : Ending → World → Prop} (h : YieldAt F m P l args W R) : YieldAt F m' P l args W R := by
  obtain ⟨fn, tmps, assign, body, hy, hR⟩ := h
  exact ⟨fn, tmps, assign, body, hy, RoundIn.anyDepth hd hR⟩
theorem fst_e (s : ByteArray) (a c : Nat) : (fstP s a c).e = errF s a c := by
  unfold fstP
  by_cases h : errF s a c = 0
  · rw [if_pos h, h]
  · rw [if_neg h]
theorem fst_bd {s : ByteArray} {a c : Nat} (ha : a ≤ s.size) (h : (fstP s a c).e = 0) : c ≠ 8 ∧ fstE s a c ≤ s.size ∧ fstE s a c ≤ a + 7 := by
  rw [fst_e] at h
  have h1 := dgE_le s 7 a ha
  unfold fstE
  rw [if_pos h]
  refine ⟨fun e => ?_, h1.2.2, h1.2.1⟩
  unfold errF at h
  rw [if_pos e] at h
  cases h
def partsL (s : ByteArray) : Nat → Nat → Nat → List Pt
  | 0, _, _ => []
  | f + 1, a, c => fstP s a c :: (if (fstP s a c).e ≠ 0 then [] else if fstE s a c = s.size then [] else if bt46 s (fstE s a c) ≠ 46 then [⟨0, fstE s a c, 6⟩] else partsL s f (fstE s a c + 1) (c + 1))
def PS (s : ByteArray) : List Pt := if s.size = 0 then [] else partsL s 9 0 0
structure KpL (W W' : World) : Prop where
  size : W.heap.size ≤ W'.heap.size
  same : ∀ (i : Nat) (cs : Array Value) (e : TypeId) (fr : Nat × Nat), W.heap[i]? = some (.cells cs e fr) → e = 213 ∨ e = 9 → W'.heap[i]? = some (.cells cs e fr)
theorem KpL.refl (W : World) : KpL W W := ⟨Nat.le_refl _, fun _ _ _ _ h _ => h⟩
theorem KpL.trans {A B C : World} (h : KpL A B) (k : KpL B C) : KpL A C := ⟨Nat.le_trans h.size k.size, fun i cs e fr h1 h2 => k.same i cs e fr (h.same i cs e fr h1 h2) h2⟩
theorem KpL.below {W W' : World} (h : Below W.heap.size W W') : KpL W W' := ⟨h.size, fun i cs e fr h1 _ => (h.block i (Array.getElem?_eq_some_iff.1 h1).1).trans h1⟩
theorem KpL.blk {W W' : World} {g t : Nat} {cs : Array Value} (h : KpL W W') (hb : Blk W g t cs) (ht : t = 213 ∨ t = 9) : Blk W' g t cs := h.same g cs t (0, 0) hb ht
theorem grown_none {w w' : World} (hb : Below w.heap.size w w') : w.grownBy w' none := ⟨hb.os, hb.tape, hb.output, hb.size, fun i hi _ => hb.block i hi⟩
def PrtRel (s : ByteArray) (Bt : Nat) (J : List Pt → World → Prop) (i3 i4 : Value) (wr : World) : Prop :=
  ∃ (a c : Nat) (pre : List Pt), i3 = .int .i64 a ∧ i4 = .int .i64 c ∧ a ≤ s.size ∧ a ≤ 8 * c ∧ c ≤ 8 ∧ pre ++ partsL s (9 - c) a c = PS s ∧ J pre wr ∧ Blk wr Bt 9 #[.string s]
set_option maxRecDepth 100000 in
set_option maxHeartbeats 4000000 in
theorem parts1_in (n l Bt : Nat) (s : ByteArray) (J Jx : List Pt → World → Prop) (W0 : World) (hab : AbidesFrom W0.heap.size J)
    (hY : ∀ pre x W, J pre W → pre.length < (PS s).length → YieldAt Fence.wide (n - 1) Tryz.prog l #[ptV x] W fun e W' => (e = .returned (.bool true) ∧ J (pre ++ [x]) W' ∧ KpL W W') ∨ (e = .returned (.bool false) ∧ Jx (pre ++ [x]) W'))
    (W : World) (hBt : Blk W Bt 9 #[.string s]) (h0 : J [] W) :
    CallsIn Fence.wide n Tryz.prog 163 #[.func (.yield l) #[] #[], .pointer (some ⟨Bt, 0, none⟩)] W fun e W' => (∃ v, e = .returned v) ∧ ((∃ ys, ys = PS s ∧ J ys W') ∨ (∃ pre, pre <+: PS s ∧ Jx pre W')) := by
  have x0 := hBt.cell 0
  simp only [List.getElem?_toArray, List.getElem?_cons_zero] at x0
  by_cases hs : s.size = 0
  · have hps : PS s = [] := by unfold PS; rw [if_pos hs]
    have hse : s = ⟨#[]⟩ := by
      have : s.data = #[] := Array.size_eq_zero_iff.1 hs
      cases s; simp_all
    subst hse
    refine callsIn_of_wp Tryz.func163 rfl trivial ?_ rfl
    simp only [Tryz.ntmps163, List.size_toArray, List.length_cons, List.length_nil, Nat.reduceAdd, Nat.reduceSub, Array.replicate_succ, Array.replicate_zero, List.push_toArray, List.append_toArray, List.nil_append, List.cons_append]
    gi_wp2
    gi_loopw [3, 4] (fun i3 i4 wr => wr = W) (fun _ _ _ => 0)
    case atStart => rfl
    case round =>
      subst hrel
      gi_wp2
      go_end0
      exact ⟨⟨_, rfl⟩, .inl ⟨_, hps.symm, h0⟩⟩
  · have hne : ¬ s.data.toList = [] := fun e => hs (by
      have : s.data = #[] := by cases h : s.data; rw [h] at e; simp at e; rw [e]
      rw [ByteArray.size, this]; rfl)
    have H0 : PrtRel s Bt J (.int .i64 (0 : Nat)) (.int .i64 (0 : Nat)) W := ⟨0, 0, [], rfl, rfl, Nat.zero_le _, by omega, by omega, by unfold PS; rw [if_neg hs]; rfl, h0, hBt⟩
    have H0 := Lib.hid H0
    have hemp : s.toList.isEmpty = false := by rw [Lib.toList_data]; simpa [List.isEmpty_iff] using hne
    clear h0 hBt hs hne
    refine callsIn_of_wp Tryz.func163 rfl trivial ?_ rfl
    simp only [Tryz.ntmps163, List.size_toArray, List.length_cons, List.length_nil, Nat.reduceAdd, Nat.reduceSub, Array.replicate_succ, Array.replicate_zero, List.push_toArray, List.append_toArray, List.nil_append, List.cons_append]
    gi_wp2
    gi_loopw [3, 4] (fun i3 i4 wr => PrtRel s Bt J i3 i4 wr) (fun _ i4 _ => 9 - (intOf i4).toNat)
    case atStart => exact H0.out
    case round =>
      clear H0 x0
      obtain ⟨a, c, pre, rfl, rfl, ha, ha8, hc, hps, hJ, hBt⟩ := hrel
      have x0 := hBt.cell 0
      simp only [List.getElem?_toArray, List.getElem?_cons_zero] at x0
      obtain ⟨p, hp⟩ : ∃ p, fstP s a c = p := ⟨_, rfl⟩
      obtain ⟨E, hE⟩ : ∃ E, fstE s a c = E := ⟨_, rfl⟩
      have HP := Lib.hid hp
      have HE := Lib.hid hE
      have h9 : 9 - c = (8 - c) + 1 := by omega
      rw [h9, partsL, hp, hE] at hps
      have hlt : pre.length < (PS s).length := by rw [← hps, List.length_append, List.length_cons]; omega
      have HBD := Lib.hid (fun h : p.e = 0 => by have := fst_bd (c := c) ha (by rw [hp]; exact h); rw [hE] at this; exact this)
      have HPS := Lib.hid hps
      clear hp hE hps h9
      by_cases q1 : p.e = 0
      · obtain ⟨hc8, hEs, hEa⟩ := HBD.out q1
        have n1 : (p.e != 0) = false := by rw [q1]; rfl
        have hE100 : E ≤ 100 := by omega
        by_cases q2 : E = s.size
        · have n2 : ((E : Int) == (s.size : Int)) = true := by rw [beq_iff_eq]; omega
          have HR1 : Hid (pre ++ [p] = PS s) := Lib.hid (by have := HPS.out; rw [if_neg (fun h => h q1), if_pos q2] at this; exact this)
          clear q1 q2
          gi_wp2_with (first
            | ((try refine ⟨trivial, ?_⟩); (try refine ⟨fun h => (by cases h), ?_⟩); gi_at_call 164; refine (callsIn_wide.2 (lfirst_is s ha (by omega) hc)).mono ?_; rintro e W1 ⟨rfl, hb1⟩; rw [HP.out, HE.out]; simp only [ptV]; have hbA := hb1.alloc hb1.size (.cells #[.int .i64 p.o, .int .i64 p.a, .int .i64 p.e] 213); have hJ2 := hab pre wr _ none hJ (grown_none hbA) (fun r e => by cases e); have hBt2 := hBt.next hbA hBt.lt; have hpb := Blk.new W1 213 #[.int .i64 p.o, .int .i64 p.a, .int .i64 p.e]; have d0 := hpb.cell 0; have d1 := hpb.cell 1; have d2 := hpb.cell 2; (simp only [qB, qC, qD] at d0 d1 d2); obtain ⟨fn, tmps, assign, body, hy, hR⟩ := hY pre p _ hJ2 hlt; (simp only [ptV] at hR hy); clear hJ2 hbA hb1)
            | ((try refine ⟨trivial, ?_⟩); (try refine ⟨fun h => (by cases h), ?_⟩); refine hR.mono ?_; clear hR; rintro e W3 (⟨rfl, hJ3, hk3⟩ | ⟨rfl, hx3⟩); (all_goals (try (have hBt3 := hk3.blk hBt2 (.inr rfl); have x3 := hBt3.cell 0; have hp3 := hk3.blk hpb (.inl rfl); have c3 := hp3.cell 2; (simp only [qB, qC, qD] at x3 c3))))))
          · refine bodyPost_ret (results_none rfl _ _ _) rfl ?_
            exact ⟨⟨_, rfl⟩, .inl ⟨_, rfl, by have := hJ3; rw [HR1.out] at this; exact this⟩⟩
          · refine bodyPost_ret (results_none rfl _ _ _) rfl ?_
            exact ⟨⟨_, rfl⟩, .inr ⟨pre ++ [p], by rw [HR1.out]; exact List.prefix_refl _, hx3⟩⟩
        · have n2 : ((E : Int) == (s.size : Int)) = false := by rw [beq_eq_false_iff_ne]; omega
          have hEl : E < s.size := by omega
          have hb := bt46_of s E hEl
          have k1 : (0 : Int) ≤ (E : Int) := by omega
          have k2 : (E : Int) < (s.size : Int) := by omega
          have k3 : IntKind.i64.wrap ((E : Int) + 1) = (E : Int) + 1 := IntWalk.i64_in _ (by omega)
          have k4 : IntKind.i64.wrap ((c : Int) + 1) = (c : Int) + 1 := IntWalk.i64_in _ (by omega)
          obtain ⟨b, hbv⟩ : ∃ b, bt46 s E = b := ⟨_, rfl⟩
          rw [hbv] at hb
          have HQ1 := Lib.hid q1
          have HQ2 := Lib.hid q2
          have HBV := Lib.hid hbv
          clear q1 hbv
          by_cases q3 : b = 46
          · have n3 : (b != 46) = false := by rw [q3]; rfl
            have HR1 : Hid (pre ++ [p] ++ partsL s (8 - c) (E + 1) (c + 1) = PS s) := Lib.hid (by have := HPS.out; rw [if_neg (fun h => h HQ1.out), if_neg HQ2.out, if_neg (fun h => h (by rw [HBV.out]; exact q3))] at this; rw [List.append_assoc]; exact this)
            clear q3
            gi_wp2_with (first
              | ((try refine ⟨trivial, ?_⟩); (try refine ⟨fun h => (by cases h), ?_⟩); gi_at_call 164; refine (callsIn_wide.2 (lfirst_is s ha (by omega) hc)).mono ?_; rintro e W1 ⟨rfl, hb1⟩; rw [HP.out, HE.out]; simp only [ptV]; have hbA := hb1.alloc hb1.size (.cells #[.int .i64 p.o, .int .i64 p.a, .int .i64 p.e] 213); have hJ2 := hab pre wr _ none hJ (grown_none hbA) (fun r e => by cases e); have hBt2 := hBt.next hbA hBt.lt; have hpb := Blk.new W1 213 #[.int .i64 p.o, .int .i64 p.a, .int .i64 p.e]; have d0 := hpb.cell 0; have d1 := hpb.cell 1; have d2 := hpb.cell 2; (simp only [qB, qC, qD] at d0 d1 d2); obtain ⟨fn, tmps, assign, body, hy, hR⟩ := hY pre p _ hJ2 hlt; (simp only [ptV] at hR hy); clear hJ2 hbA hb1)
              | ((try refine ⟨trivial, ?_⟩); (try refine ⟨fun h => (by cases h), ?_⟩); refine hR.mono ?_; clear hR; rintro e W3 (⟨rfl, hJ3, hk3⟩ | ⟨rfl, hx3⟩); (all_goals (try (have hBt3 := hk3.blk hBt2 (.inr rfl); have x3 := hBt3.cell 0; have hp3 := hk3.blk hpb (.inl rfl); have c3 := hp3.cell 2; (simp only [qB, qC, qD] at x3 c3))))))
            · go_roundw
              case rel => exact ⟨E + 1, c + 1, pre ++ [p], by go_num, by go_num, by omega, by omega, by omega, by rw [show 9 - (c + 1) = 8 - c by omega]; exact HR1.out, hJ3, hBt3⟩
              case measure => simp [intOf]; omega
            · refine bodyPost_ret (results_none rfl _ _ _) rfl ?_
              exact ⟨⟨_, rfl⟩, .inr ⟨pre ++ [p], ⟨_, HR1.out⟩, hx3⟩⟩
          · have n3 : (b != 46) = true := by rw [bne_iff_ne]; exact q3
            have HR1 : Hid (pre ++ [p] ++ [⟨0, (E : Int), 6⟩] = PS s) := Lib.hid (by have := HPS.out; rw [if_neg (fun h => h HQ1.out), if_neg HQ2.out, if_pos (by rw [HBV.out]; exact q3)] at this; rw [List.append_assoc]; exact this)
            have hlt2 : (pre ++ [p]).length < (PS s).length := by rw [← HR1.out]; simp
            clear q3
            have ONCE : True := trivial
            gi_wp2_with (first
              | ((try refine ⟨trivial, ?_⟩); (try refine ⟨fun h => (by cases h), ?_⟩); gi_at_call 164; refine (callsIn_wide.2 (lfirst_is s ha (by omega) hc)).mono ?_; rintro e W1 ⟨rfl, hb1⟩; rw [HP.out, HE.out]; simp only [ptV]; have hbA := hb1.alloc hb1.size (.cells #[.int .i64 p.o, .int .i64 p.a, .int .i64 p.e] 213); have hJ2 := hab pre wr _ none hJ (grown_none hbA) (fun r e => by cases e); have hBt2 := hBt.next hbA hBt.lt; have hpb := Blk.new W1 213 #[.int .i64 p.o, .int .i64 p.a, .int .i64 p.e]; have d0 := hpb.cell 0; have d1 := hpb.cell 1; have d2 := hpb.cell 2; (simp only [qB, qC, qD] at d0 d1 d2); obtain ⟨fn, tmps, assign, body, hy, hR⟩ := hY pre p _ hJ2 hlt; (simp only [ptV] at hR hy); clear hJ2 hbA hb1)
              | (clear ONCE; (try refine ⟨trivial, ?_⟩); (try refine ⟨fun h => (by cases h), ?_⟩); refine hR.mono ?_; clear hR; rintro e W3 (⟨rfl, hJ3, hk3⟩ | ⟨rfl, hx3⟩); (all_goals (try (have hBt3 := hk3.blk hBt2 (.inr rfl); have x3 := hBt3.cell 0; have hp3 := hk3.blk hpb (.inl rfl); have c3 := hp3.cell 2; obtain ⟨fn2, tmps2, assign2, body2, hy2, hR2⟩ := hY (pre ++ [p]) ⟨0, (E : Int), 6⟩ W3 hJ3 hlt2; (simp only [ptV] at hR2 hy2); (simp only [qB, qC, qD] at x3 c3)))))
              | ((try refine ⟨trivial, ?_⟩); (try refine ⟨fun h => (by cases h), ?_⟩); refine hR2.mono ?_; clear hR2; rintro e W4 (⟨rfl, hJ4, hk4⟩ | ⟨rfl, hx4⟩)))
            · refine bodyPost_ret (results_none rfl _ _ _) rfl ?_
              exact ⟨⟨_, rfl⟩, .inl ⟨_, rfl, by have := hJ4; rw [HR1.out] at this; exact this⟩⟩
            · refine bodyPost_ret (results_none rfl _ _ _) rfl ?_
              exact ⟨⟨_, rfl⟩, .inr ⟨_, by rw [HR1.out]; exact List.prefix_refl _, hx4⟩⟩
            · refine bodyPost_ret (results_none rfl _ _ _) rfl ?_
              exact ⟨⟨_, rfl⟩, .inr ⟨pre ++ [p], ⟨_, HR1.out⟩, hx3⟩⟩
      · have n1 : (p.e != 0) = true := by rw [bne_iff_ne]; exact q1
        have HR1 : Hid (pre ++ [p] = PS s) := Lib.hid (by have := HPS.out; rw [if_pos q1] at this; exact this)
        clear q1
        gi_wp2_with (first
          | ((try refine ⟨trivial, ?_⟩); (try refine ⟨fun h => (by cases h), ?_⟩); gi_at_call 164; refine (callsIn_wide.2 (lfirst_is s ha (by omega) hc)).mono ?_; rintro e W1 ⟨rfl, hb1⟩; rw [HP.out, HE.out]; simp only [ptV]; have hbA := hb1.alloc hb1.size (.cells #[.int .i64 p.o, .int .i64 p.a, .int .i64 p.e] 213); have hJ2 := hab pre wr _ none hJ (grown_none hbA) (fun r e => by cases e); have hBt2 := hBt.next hbA hBt.lt; have hpb := Blk.new W1 213 #[.int .i64 p.o, .int .i64 p.a, .int .i64 p.e]; have d0 := hpb.cell 0; have d1 := hpb.cell 1; have d2 := hpb.cell 2; (simp only [qB, qC, qD] at d0 d1 d2); obtain ⟨fn, tmps, assign, body, hy, hR⟩ := hY pre p _ hJ2 hlt; (simp only [ptV] at hR hy); clear hJ2 hbA hb1)
          | ((try refine ⟨trivial, ?_⟩); (try refine ⟨fun h => (by cases h), ?_⟩); refine hR.mono ?_; clear hR; rintro e W3 (⟨rfl, hJ3, hk3⟩ | ⟨rfl, hx3⟩); (all_goals (try (have hBt3 := hk3.blk hBt2 (.inr rfl); have x3 := hBt3.cell 0; have hp3 := hk3.blk hpb (.inl rfl); have c3 := hp3.cell 2; (simp only [qB, qC, qD] at x3 c3))))))
        · refine bodyPost_ret (results_none rfl _ _ _) rfl ?_
          exact ⟨⟨_, rfl⟩, .inl ⟨_, rfl, by have := hJ3; rw [HR1.out] at this; exact this⟩⟩
        · refine bodyPost_ret (results_none rfl _ _ _) rfl ?_
          exact ⟨⟨_, rfl⟩, .inr ⟨pre ++ [p], by rw [HR1.out]; exact List.prefix_refl _, hx3⟩⟩
theorem parts_in (F : Fence) (n : Nat) (h4 : F.fn 120) (hro : F.round = none) (s : ByteArray) (w : World) :
    CallsIn F n Tryz.prog 120 #[.string s] w fun e w' => e = .returned (.func (.func 163) #[] #[.pointer (some ⟨w.heap.size, 0, none⟩)]) ∧ w' = w.alloc (.cells #[.string s] 9) := by
  refine callsIn_of_wp Tryz.func120 rfl h4 ?_ hro
  simp only [Tryz.ntmps120, List.size_toArray, List.length_cons, List.length_nil, Nat.reduceAdd, Nat.reduceSub, Array.replicate_succ, Array.replicate_zero, List.push_toArray, List.append_toArray, List.nil_append, List.cons_append]
  gi_wp2
  go_ret
  exact ⟨rfl, rfl⟩
theorem parts_stops (n Bt : Nat) (s : ByteArray) (w : World) (hBt : Blk w Bt 9 #[.string s]) :
    SeqStopsK Fence.wide n Tryz.prog 163 #[.pointer (some ⟨Bt, 0, none⟩)] (fun x : Pt => #[ptV x]) KpL (fun ys => ys = PS s) (fun pre => pre <+: PS s) (PS s).length w := fun l J Jx W hW hab _ hY h0 =>
  parts1_in n l Bt s J Jx W hab hY W (hBt.next hW hBt.lt) h0
theorem KpL.putObj {W : World} {l : Nat} {o o' : Obj} (h : W.heap[l]? = some o) (ho : o.isCells = false) : KpL W (W.putObj l o') :=
  ⟨(grownBy_putObj' W l o').size, fun i cs e fr h1 _ => ((grownBy_putObj' W l o').block i (Array.getElem?_eq_some_iff.1 h1).1 (fun e1 => by
    injection e1 with e1
    subst e1
    rw [h] at h1
    injection h1 with h1
    subst h1
    cases ho)).trans h1⟩
theorem blk_own {B : Nat} {W W' : World} {row : Option Nat} {g t : Nat} {cs : Array Value} (h : Blk W g t cs) (hg : W.grownBy W' row) (hr : ∀ r, row = some r → B ≤ r ∧ ∃ o : Obj, W.heap[r]? = some o ∧ o.isCells = false) : Blk W' g t cs :=
  h.grown hg (fun e => by
    obtain ⟨_, o, ho, hc⟩ := hr g e.symm
    unfold Blk at h
    rw [h] at ho
    injection ho with ho
    subst ho
    cases hc)
def ResI (w : World) (c2 c3 c4 : Value) (W : World) : Prop := Blk W w.heap.size 22 #[c2] ∧ Blk W (w.heap.size + 1) 3 #[c3] ∧ Blk W (w.heap.size + 1 + 1) 29 #[c4] ∧ Below w.heap.size w W
theorem ResI.own {B : Nat} {w W W' : World} {row : Option Nat} {c2 c3 c4 : Value} (h : ResI w c2 c3 c4 W) (hB : w.heap.size ≤ B) (hg : W.grownBy W' row) (hr : ∀ r, row = some r → B ≤ r ∧ ∃ o : Obj, W.heap[r]? = some o ∧ o.isCells = false) : ResI w c2 c3 c4 W' := by
  obtain ⟨h1, h2, h3, h4⟩ := h
  refine ⟨blk_own h1 hg hr, blk_own h2 hg hr, blk_own h3 hg hr, ?_⟩
  exact h4.trans ⟨hg.os, hg.tape, hg.output, hg.size, fun i hi => hg.block i (Nat.lt_of_lt_of_le hi h4.size) (fun e => by have := (hr i e.symm).1; omega)⟩
theorem ResI.drew {w W : World} {c2 c3 c4 : Value} (h : ResI w c2 c3 c4 W) : ResI w c2 c3 c4 W.drew := ⟨h.1, h.2.1, h.2.2.1, h.2.2.2.drew⟩
theorem ResI.put3 {w W : World} {c2 c3 c4 : Value} (h : ResI w c2 c3 c4 W) (v2 v3 v4 : Value) : ResI w v2 v3 v4 (((W.setCell ⟨w.heap.size, 0, none⟩ v2).setCell ⟨w.heap.size + 1, 0, none⟩ v3).setCell ⟨w.heap.size + 1 + 1, 0, none⟩ v4) ∧
    KeepsOthers W (((W.setCell ⟨w.heap.size, 0, none⟩ v2).setCell ⟨w.heap.size + 1, 0, none⟩ v3).setCell ⟨w.heap.size + 1 + 1, 0, none⟩ v4) := by
  obtain ⟨h1, h2, h3, h4⟩ := h
  have g := fun (W : World) (n : Nat) (v : Value) => (show W.grownBy (W.setCell ⟨n, 0, none⟩ v) (some n) from only_setCell (only_of_below (Below.refl _ _) _) (.inl rfl) v)
  refine ⟨⟨((h1.set_ 0 v2).grown (g _ _ v3) (by simp)).grown (g _ _ v4) (by simp; omega), ((h2.grown (g _ _ v2) (by simp)).set_ 0 v3).grown (g _ _ v4) (by simp), ((h3.grown (g _ _ v2) (by simp; omega)).grown (g _ _ v3) (by simp)).set_ 0 v4, ?_⟩, ((KeepsOthers.setCell _ _ _).trans (KeepsOthers.setCell _ _ _)).trans (KeepsOthers.setCell _ _ _)⟩
  exact ((h4.setCell (p := ⟨w.heap.size, 0, none⟩) (Nat.le_refl _) v2).setCell (p := ⟨w.heap.size + 1, 0, none⟩) (by simp) v3).setCell (p := ⟨w.heap.size + 1 + 1, 0, none⟩) (by simp; omega) v4
def ParI (w : World) (pre : List Pt) (W : World) : Prop := (∀ p ∈ pre, p.e = 0) ∧ ResI w (.string ⟨#[]⟩) (.int .i64 0) (.int .i64 0) W
def ParX (w : World) (c : Code) (pre : List Pt) (W : World) : Prop := c = .ret ∧ ∃ p ∈ pre, p.e ≠ 0 ∧ ResI w (.string ⟨#[]⟩) (.int .i64 p.a) (.int .i64 p.e) W
def ParseP (s : ByteArray) (w : World) (e : Ending) (w' : World) : Prop := Below w.heap.size w w' ∧ ∃ (v1 v2 : Value) (E : Int), e = .returned (.tuple #[v1, v2, .int .i64 E]) ∧ (E = 0 ↔ ∀ p ∈ PS s, p.e = 0)
def PARW (w : World) (s : ByteArray) : World := (((w.alloc (.cells #[.string ⟨#[]⟩] 22)).alloc (.cells #[.int .i64 0] 3)).alloc (.cells #[.int .i64 0] 29)).alloc (.cells #[.string s] 9)
theorem parw_start (w : World) (s : ByteArray) : ResI w (.string ⟨#[]⟩) (.int .i64 0) (.int .i64 0) (PARW w s) ∧ Blk (PARW w s) (w.heap.size + 1 + 1 + 1) 9 #[.string s] ∧ (PARW w s).heap.size = w.heap.size + 1 + 1 + 1 + 1 := by
  have b1 := Blk.new w 22 #[.string ⟨#[]⟩]
  have b2 := Blk.new (w.alloc (.cells #[.string ⟨#[]⟩] 22)) 3 #[.int .i64 0]
  have b3 := Blk.new ((w.alloc (.cells #[.string ⟨#[]⟩] 22)).alloc (.cells #[.int .i64 0] 3)) 29 #[.int .i64 0]
  have b4 := Blk.new (((w.alloc (.cells #[.string ⟨#[]⟩] 22)).alloc (.cells #[.int .i64 0] 3)).alloc (.cells #[.int .i64 0] 29)) 9 #[.string s]
  simp only [World.size_alloc] at b2 b3 b4
  have al := fun (W : World) (o : Obj) => (Below.refl W.heap.size W).alloc (Nat.le_refl _) o
  refine ⟨⟨((b1.next (al _ _) b1.lt).next (al _ _) (b1.next (al _ _) b1.lt).lt).next (al _ _) ((b1.next (al _ _) b1.lt).next (al _ _) (b1.next (al _ _) b1.lt).lt).lt, (b2.next (al _ _) b2.lt).next (al _ _) (b2.next (al _ _) b2.lt).lt, b3.next (al _ _) b3.lt, ?_⟩, b4, by simp [PARW]⟩
  exact ((((Below.refl _ _).alloc (Nat.le_refl _) _).alloc (by simp) _).alloc (by simp; omega) _).alloc (by simp; omega) _
set_option maxRecDepth 100000 in
set_option maxHeartbeats 4000000 in
theorem parse_is (s : ByteArray) (w : World) : Calls Tryz.prog 73 #[.string s] w (ParseP s w) := by
  obtain ⟨hR0, hBt, hSz⟩ := parw_start w s
  refine (callsIn_wide (n := 6)).1 ?_
  refine callsIn_of_wp_marks Tryz.func73 rfl trivial ?_ rfl
  simp only [Tryz.ntmps73, List.size_toArray, List.length_cons, List.length_nil, Nat.reduceAdd, Nat.reduceSub, Array.replicate_succ, Array.replicate_zero, List.push_toArray, List.append_toArray, List.nil_append, List.cons_append]
  gi_wp2_with ((try refine ⟨trivial, ?_⟩); gi_at_call 120; refine (parts_in Fence.wide _ trivial rfl _ _).mono ?_; rintro e w' ⟨rfl, rfl⟩)
  refine wpIn_rangeFunc_ownH (w := PARW w s) rfl (by omega) (gf := 163) (lb := #[.pointer (some ⟨w.heap.size + 1 + 1 + 1, 0, none⟩)]) rfl trivial (enters_of Tryz.func163 (by kernel_rfl) rfl)
    (parts_stops _ _ s (PARW w s) hBt) (fun h k => h.trans k) (fun W l o o' _ h1 h2 _ => KpL.putObj h1 h2) (Below.refl _ _) (fun _ => rfl)
    (ParI w) (ParX w) (fun pre W W' row h hg hr => ⟨h.1, h.2.own (by rw [hSz]; omega) hg hr⟩) (fun c pre W W' row h hg hr => by
      obtain ⟨h1, p, hp, h2, h3⟩ := h
      exact ⟨h1, p, hp, h2, h3.own (by rw [hSz]; omega) hg hr⟩)
    ⟨fun p h => (by cases h), hR0⟩
    (fun x a' W => ∃ pb, a' = { tmps := #[.string s, undef, .pointer (some ⟨w.heap.size, 0, none⟩), .pointer (some ⟨w.heap.size + 1, 0, none⟩), .pointer (some ⟨w.heap.size + 1 + 1, 0, none⟩), .pointer (some ⟨pb, 0, none⟩), .string s, .func (.func 163) #[] #[.pointer (some ⟨w.heap.size + 1 + 1 + 1, 0, none⟩)], .agg #[.int .i64 x.o, .int .i64 x.a, .int .i64 x.e], undef, undef, undef, undef, undef, undef, undef, undef], defers := [] } ∧ Blk W pb 213 #[.int .i64 x.o, .int .i64 x.a, .int .i64 x.e]) (fun x a' _ W W' row h hg hr => by
      obtain ⟨pb, h1, h2⟩ := h
      exact ⟨pb, h1, blk_own h2 hg hr⟩) ?assign ?body ?done ?stop
  case assign =>
    intro l pre x W K hI hK
    have hb := Blk.new W 213 #[.int .i64 x.o, .int .i64 x.a, .int .i64 x.e]
    have hal := (Below.refl W.heap.size W).alloc (Nat.le_refl _) (.cells #[.int .i64 x.o, .int .i64 x.a, .int .i64 x.e] 213)
    simp only [ptV]
    gi_wp2
    exact hK _ _ ((KeepsOthers.alloc W _).from _) (KpL.below hal) ⟨hI.1, hI.2.own (Nat.le_refl _) (grown_none hal) (fun r e => by cases e)⟩ ⟨W.heap.size, rfl, hb⟩
  case body =>
    rintro l pre x a' W hwl hr ⟨hI1, hI2⟩ ⟨pb, rfl, hb⟩ hlt
    obtain ⟨r2, r3, r4, hbw⟩ := id hI2
    have c1 := hb.cell 1
    have c2 := hb.cell 2
    have z2 := r2.cell 0
    have z3 := r3.cell 0
    have z4 := r4.cell 0
    have f2 := r2.frozen 0
    have f3 := r3.frozen 0
    have f4 := r4.frozen 0
    simp only [qB, qC, qD] at c1 c2 z2 z3 z4
    by_cases hx : x.e = 0
    · have n1 : (x.e != 0) = false := by rw [hx]; rfl
      have HX := Lib.hid hx
      clear hx
      gi_wp2
      refine ⟨KeepsFrom.refl _ _, KpL.refl _, fun p hp => ?_, hI2⟩
      rcases List.mem_append.1 hp with h | h
      · exact hI1 p h
      · rw [List.mem_singleton] at h; rw [h]; exact HX.out
    · have n1 : (x.e != 0) = true := by rw [bne_iff_ne]; exact hx
      have HX := Lib.hid hx
      clear hx
      gi_wp2
      obtain ⟨hr3, hk3⟩ := hI2.put3 (.string ⟨#[]⟩) (.int .i64 x.a) (.int .i64 x.e)
      have HR3 := Lib.hid hr3
      have HK3 := Lib.hid hk3
      clear hr3 hk3
      gi_region
      all_goals gi_wp2
      all_goals exact ⟨(HK3.out.trans (KeepsOthers.drew _)).from _, rfl, x, by simp, HX.out, HR3.out.drew⟩
  case done =>
    rintro D ys W hD rfl ⟨hI1, hI2⟩ hK
    obtain ⟨r2, r3, r4, hbw⟩ := id hI2
    have z2 := r2.cell 0
    have z3 := r3.cell 0
    have z4 := r4.cell 0
    have f2 := r2.frozen 0
    have f3 := r3.frozen 0
    have f4 := r4.frozen 0
    simp only [qB, qC, qD] at z2 z3 z4
    obtain ⟨hr3, hk3⟩ := hI2.put3 (.string s) (.int .i64 0) (.int .i64 0)
    have HR3 := Lib.hid hr3
    have hK2 := hk3.same D _ hK rfl
    have HK2 := Lib.hid hK2
    have HI1 := Lib.hid hI1
    clear hr3 hk3 hK2 hI1
    gi_wp2
    have hK2 := HK2.out
    refine ⟨by simp, .inl ⟨_, _, rfl, run_takeDeferred hK2, ?_⟩⟩
    have hD2 : w.heap.size + 1 + 1 < D := by rw [hSz] at hD; omega
    have hgp := grownBy_putObj' (((W.setCell ⟨w.heap.size, 0, none⟩ (.string s)).setCell ⟨w.heap.size + 1, 0, none⟩ (.int .i64 0)).setCell ⟨w.heap.size + 1 + 1, 0, none⟩ (.int .i64 0)) D (.deferred none)
    have hrp : ∀ r, some D = some r → w.heap.size ≤ r ∧ ∃ o : Obj, ((((W.setCell ⟨w.heap.size, 0, none⟩ (.string s)).setCell ⟨w.heap.size + 1, 0, none⟩ (.int .i64 0)).setCell ⟨w.heap.size + 1 + 1, 0, none⟩ (.int .i64 0))).heap[r]? = some o ∧ o.isCells = false := fun r e => by injection e with e; subst e; exact ⟨by omega, _, hK2, rfl⟩
    have hI4 := HR3.out.own (Nat.le_refl _) hgp hrp
    have y2 := hI4.1.cell 0
    have y3 := hI4.2.1.cell 0
    have y4 := hI4.2.2.1.cell 0
    simp only [qB, qC, qD] at y2 y3 y4
    refine ⟨.tuple #[.string s, .int .i64 0, .int .i64 0], by simp [results, Tryz.results73, go_sem, y2, y3, y4], hI4.2.2.2, _, _, 0, rfl, ⟨fun _ => HI1.out, fun _ => rfl⟩⟩
  case stop =>
    rintro D c pre W hD hpre ⟨rfl, p, hp, hpe, hI2⟩ hK
    have HI2 := Lib.hid hI2
    have HK2 := Lib.hid hK
    have HPE := Lib.hid hpe
    have HPP := Lib.hid (hpre.subset hp)
    clear hI2 hK hpe hpre hp
    gi_wp2
    have hK2 := HK2.out
    refine ⟨by simp, .inl ⟨_, _, rfl, run_takeDeferred hK2, ?_⟩⟩
    have hD2 : w.heap.size + 1 + 1 < D := by rw [hSz] at hD; omega
    have hgp := grownBy_putObj' W D (.deferred none)
    have hrp : ∀ r, some D = some r → w.heap.size ≤ r ∧ ∃ o : Obj, (W).heap[r]? = some o ∧ o.isCells = false := fun r e => by injection e with e; subst e; exact ⟨by omega, _, hK2, rfl⟩
    have hI4 := HI2.out.own (Nat.le_refl _) hgp hrp
    have y2 := hI4.1.cell 0
    have y3 := hI4.2.1.cell 0
    have y4 := hI4.2.2.1.cell 0
    simp only [qB, qC, qD] at y2 y3 y4
    refine ⟨.tuple #[.string ⟨#[]⟩, .int .i64 p.a, .int .i64 p.e], by simp [results, Tryz.results73, go_sem, y2, y3, y4], hI4.2.2.2, _, _, p.e, rfl, ⟨fun h => absurd h HPE.out, fun h => absurd (h p HPP.out) HPE.out⟩⟩
end Go.Proofs.YtamjllakfgphnaaGreatDoor
namespace Go.Proofs.YtamjllakfgphnaaGreatDoor
open Go.RowKit Go.Shelf
set_option linter.unusedSimpArgs false
set_option linter.unusedVariables false
def okP (s : ByteArray) : Bool := (PS s).all fun p => p.e == 0
theorem okP_iff (s : ByteArray) : okP s = true ↔ ∀ p ∈ PS s, p.e = 0 := by simp [okP]
theorem valid_is (s : ByteArray) (w : World) : Calls Tryz.prog 28 #[.string s] w fun e w' => e = .returned (.bool (okP s)) ∧ Below w.heap.size w w' := by
  have HP := Lib.hid (parse_is s w)
  obtain ⟨q, hq⟩ : ∃ q, okP s = q := ⟨_, rfl⟩
  rw [hq]
  have HQ := Lib.hid hq
  clear hq
  go_enter Tryz.func28, Tryz.ntmps28
  go_wp2_with fail
  refine HP.out.mono ?_
  rintro e w' ⟨hb, v1, v2, E, rfl, hE⟩
  have e1 : (E == 0) = q := by
    rw [← okP_iff, HQ.out] at hE
    cases q with
    | true => rw [beq_iff_eq]; exact hE.2 rfl
    | false => rw [beq_eq_false_iff_ne]; exact fun h => by have := hE.1 h; cases this
  have HB := Lib.hid hb
  clear hE hb
  go_wp2_with fail
  go_ret
  exact ⟨rfl, HB.out⟩
theorem partsL_len (s : ByteArray) : ∀ (f a c : Nat), (partsL s f a c).length ≤ f + 1
  | 0, _, _ => Nat.zero_le _
  | f + 1, a, c => by
    unfold partsL
    have := partsL_len s f (fstE s a c + 1) (c + 1)
    rw [List.length_cons]
    split
    · simp
    · split
      · simp
      · split
        · simp
        · omega
theorem PS_len (s : ByteArray) : (PS s).length ≤ 10 := by
  unfold PS
  split
  · simp
  · exact partsL_len s 9 0 0
theorem KpL.grown {W W' : World} {row : Option Nat} (hg : W.grownBy W' row) (hr : ∀ i cs e fr, row = some i → W.heap[i]? = some (.cells cs e fr) → ¬ (e = 213 ∨ e = 9)) : KpL W W' :=
  ⟨hg.size, fun i cs e fr h1 h2 => (hg.block i (Array.getElem?_eq_some_iff.1 h1).1 (fun e1 => hr i cs e fr e1.symm h1 h2)).trans h1⟩
def OrdC (w : World) (pre : List Pt) (W : World) : Prop := (∃ v, Boxed W (w.heap.size + 1) 33 v ∧ W.ownsRow w.heap.size 3 1 v pre.length (pre.map fun p => Value.int .i64 p.o) ∧ True)
theorem ordC_own (w : World) (B : Nat) : OwnFrom B (OrdC w) := Own.from (holdsRow_own w.heap.size (w.heap.size + 1) 33 3 1 (fun (pre : List Pt) => pre.length) (fun (pre : List Pt) => pre.map fun (p : Pt) => Value.int .i64 p.o) (fun _ _ => True)) B
def OrdI (w : World) (pre : List Pt) (W : World) : Prop := (OrdC w pre W ∧ Below w.heap.size w W) ∧ (∀ p ∈ pre, p.e = 0) ∧ Blk W w.heap.size 33 #[.slice none 0 0]
def OrdX (w : World) (c : Code) (pre : List Pt) (W : World) : Prop := c = .ret ∧ (∃ p ∈ pre, p.e ≠ 0) ∧ Blk W w.heap.size 33 #[.slice none 0 0] ∧ Below w.heap.size w W
theorem infoIn : (Tryz.prog.info? 3).map (fun i => (i.zero, i.size, i.bytes)) = some (some (.int .i64 0), 1, 8) := by kernel_rfl
abbrev RdIn (w : World) (v : Value) (l : List Int) : Prop := RdP 3 inC w v l
def ordsL (s : ByteArray) : List Int := (PS s).map Pt.o
theorem ords_fm (l : List Pt) : (l.map Pt.o).flatMap inC = l.map fun p => Value.int .i64 p.o := by
  induction l with
  | nil => rfl
  | cons a l ih => simp only [List.map_cons, List.flatMap_cons, ih]; rfl
def OrdP (s : ByteArray) (w : World) (e : Ending) (w' : World) : Prop := Below w.heap.size w w' ∧ ∃ (A : Option Addr) (n c : Nat), e = .returned (.slice A n c) ∧ (okP s = true → n = (PS s).length ∧ RdIn w' (.slice A n c) (ordsL s))
def ORDW (w : World) (s : ByteArray) : World := ((w.alloc (.cells #[.slice none 0 0] 33)).alloc (.cells #[.slice none 0 0] 33)).alloc (.cells #[.string s] 9)
theorem ordw_start (w : World) (s : ByteArray) : OrdI w [] (ORDW w s) ∧ Blk (ORDW w s) (w.heap.size + 1 + 1) 9 #[.string s] ∧ (ORDW w s).heap.size = w.heap.size + 1 + 1 + 1 := by
  have b1 := Blk.new w 33 #[.slice none 0 0]
  have b2 := Blk.new (w.alloc (.cells #[.slice none 0 0] 33)) 33 #[.slice none 0 0]
  have b3 := Blk.new ((w.alloc (.cells #[.slice none 0 0] 33)).alloc (.cells #[.slice none 0 0] 33)) 9 #[.string s]
  simp only [World.size_alloc] at b2 b3
  have al := fun (W : World) (o : Obj) => (Below.refl W.heap.size W).alloc (Nat.le_refl _) o
  refine ⟨⟨⟨⟨_, show Boxed _ _ _ _ from b2.next (al _ _) b2.lt, World.ownsRow_nil _ _ _ _, trivial⟩, ?_⟩, fun p h => (by cases h), (b1.next (al _ _) b1.lt).next (al _ _) (b1.next (al _ _) b1.lt).lt⟩, b3, by simp [ORDW]⟩
  exact (((Below.refl _ _).alloc (Nat.le_refl _) _).alloc (by simp) _).alloc (by simp; omega) _
section
attribute [local go_sem] Oper.semAt_some
set_option maxRecDepth 100000 in
set_option maxHeartbeats 4000000 in
theorem ordinals_is (s : ByteArray) (w : World) : Calls Tryz.prog 130 #[.string s] w (OrdP s w) := by
  obtain ⟨hR0, hBt, hSz⟩ := ordw_start w s
  obtain ⟨i0, hi, hz0, hz1, hz2⟩ := info_parts infoIn
  refine (callsIn_wide (n := 6)).1 ?_
  refine callsIn_of_wp_marks Tryz.func130 rfl trivial ?_ rfl
  simp only [Tryz.ntmps130, List.size_toArray, List.length_cons, List.length_nil, Nat.reduceAdd, Nat.reduceSub, Array.replicate_succ, Array.replicate_zero, List.push_toArray, List.append_toArray, List.nil_append, List.cons_append]
  gi_wp2_with ((try refine ⟨trivial, ?_⟩); gi_at_call 120; refine (parts_in Fence.wide _ trivial rfl _ _).mono ?_; rintro e w' ⟨rfl, rfl⟩)
  refine wpIn_rangeFunc_ownH (w := ORDW w s) rfl (by omega) (gf := 163) (lb := #[.pointer (some ⟨w.heap.size + 1 + 1, 0, none⟩)]) rfl trivial (enters_of Tryz.func163 (by kernel_rfl) rfl)
    (parts_stops _ _ s (ORDW w s) hBt) (fun h k => h.trans k) (fun W l o o' _ h1 h2 _ => KpL.putObj h1 h2) (Below.refl _ _) (fun _ => rfl)
    (OrdI w) (OrdX w) (fun pre W W' row h hg hr => ⟨⟨ordC_own w _ pre W W' row h.1.1 hg hr, h.1.2.trans ⟨hg.os, hg.tape, hg.output, hg.size, fun i hi => hg.block i (Nat.lt_of_lt_of_le hi h.1.2.size) (fun e => by have := (hr i e.symm).1; rw [hSz] at this; omega)⟩⟩, h.2.1, blk_own h.2.2 hg hr⟩) (fun c pre W W' row h hg hr => by
      obtain ⟨h1, h2, h3, h4⟩ := h
      exact ⟨h1, h2, blk_own h3 hg hr, h4.trans ⟨hg.os, hg.tape, hg.output, hg.size, fun i hi => hg.block i (Nat.lt_of_lt_of_le hi h4.size) (fun e => by have := (hr i e.symm).1; rw [hSz] at this; omega)⟩⟩)
    hR0
    (fun x a' W => ∃ pb, a' = { tmps := #[.string s, undef, .pointer (some ⟨w.heap.size, 0, none⟩), .pointer (some ⟨w.heap.size + 1, 0, none⟩), .pointer (some ⟨pb, 0, none⟩), .string s, .func (.func 163) #[] #[.pointer (some ⟨w.heap.size + 1 + 1, 0, none⟩)], .agg #[.int .i64 x.o, .int .i64 x.a, .int .i64 x.e], undef, undef, undef, undef, undef, undef, undef, undef, undef], defers := [] } ∧ Blk W pb 213 #[.int .i64 x.o, .int .i64 x.a, .int .i64 x.e]) (fun x a' _ W W' row h hg hr => by
      obtain ⟨pb, h1, h2⟩ := h
      exact ⟨pb, h1, blk_own h2 hg hr⟩) ?assign ?body ?done ?stop
  case assign =>
    intro l pre x W K hI hK
    have hb := Blk.new W 213 #[.int .i64 x.o, .int .i64 x.a, .int .i64 x.e]
    have hal := (Below.refl W.heap.size W).alloc (Nat.le_refl _) (.cells #[.int .i64 x.o, .int .i64 x.a, .int .i64 x.e] 213)
    obtain ⟨⟨⟨v, hv, hrow, _⟩, hB⟩, hp, hb2⟩ := hI
    simp only [ptV]
    gi_wp2
    exact hK _ _ ((KeepsOthers.alloc W _).from _) (KpL.below hal) ⟨⟨⟨v, hv.alloc _, own_next hrow hal, trivial⟩, hB.trans (hal.mono hB.size)⟩, hp, hb2.next hal hb2.lt⟩ ⟨W.heap.size, rfl, hb⟩
  case body =>
    rintro l pre x a' W hwl hr ⟨⟨⟨v, hv, hrow, _⟩, hB⟩, hpe, hb2⟩ ⟨pb, rfl, hb⟩ hlt
    have hpl : pre.length ≤ 10 := Nat.le_of_lt (Nat.lt_of_lt_of_le hlt (PS_len s))
    have c0 := hb.cell 0
    have c2 := hb.cell 2
    have y2 := hb2.cell 0
    have f2 := hb2.frozen 0
    have hc := hv.cell
    simp only [qB, qC, qD] at c0 c2 y2
    by_cases hx : x.e = 0
    · have n1 : (x.e != 0) = false := by rw [hx]; rfl
      have HX := Lib.hid hx
      have HPE := Lib.hid hpe
      have HB2 := Lib.hid hb2
      clear hx hpe hb2
      gi_wp2_with (gi_at_builtin; refine wpListIn_append_own _ rfl _ _ 33 rfl w.heap.size 3 i0 (.int .i64 0) 1 8 Tryz.underlying33 hi hz0 hz1 hz2 rfl (by decide) _ _ _ rfl (hrow.alloc _) ⟨W.heap.size, 0, none⟩ 1 1 [.int .i64 x.o] rfl rfl (cell_one_new _ _ _) (by simp [Value.oneCell']) (by unfold maxLen; omega) (by omega) (by have := hB.size; simp; omega) ?_; intro v' w1 hown' hgrow _; obtain ⟨g', cap', rfl⟩ := ownsRow_succ hown'; obtain ⟨hv1, hv2, hr2, hk2, hb5⟩ := hv.appended (by decide) hrow hB.size (by omega) hown' hgrow; have hc1 := hv1.cell; have hf1 := hv1.frozen; have HG1 := Lib.hid hgrow)
      have hkL : KpL W (w1.setCell ⟨w.heap.size + 1, 0, none⟩ (.slice (some ⟨g', 0, none⟩) (pre.length + 1) cap')) := by
        refine ((KpL.below ((Below.refl W.heap.size W).alloc (Nat.le_refl _) _)).trans (KpL.grown HG1.out ?_)).trans (KpL.grown (row := some (w.heap.size + 1)) (only_setCell (only_of_below (Below.refl _ _) _) (.inl rfl) _) ?_)
        · intro i cs e fr h1 h2 h3
          have ho := own_next hrow ((Below.refl W.heap.size W).alloc (Nat.le_refl _) (.cells #[.int .i64 x.o] 3))
          obtain ⟨cur, hcur⟩ := own_cells_of ho h1
          rw [hcur] at h2
          injection h2 with h2
          injection h2 with _ h2 _
          subst h2
          rcases h3 with h3 | h3 <;> cases h3
        · intro i cs e fr h1 h2 h3
          injection h1 with h1
          subst h1
          have := hv1
          unfold Boxed at this
          rw [this] at h2
          injection h2 with h2
          injection h2 with _ h2 _
          subst h2
          rcases h3 with h3 | h3 <;> cases h3
      refine ⟨hk2.from _, hkL, ⟨⟨_, hv2, by simpa using hr2, trivial⟩, hB.trans hb5⟩, fun p hp => ?_, ?_⟩
      · rcases List.mem_append.1 hp with h | h
        · exact HPE.out p h
        · rw [List.mem_singleton] at h; rw [h]; exact HX.out
      · have hne : v.ownBlock ≠ some w.heap.size := fun e => by
          obtain ⟨cur, hcur⟩ := own_cells_of hrow e
          have h3 := HB2.out
          unfold Blk at h3
          rw [h3] at hcur
          injection hcur with hcur
          injection hcur with _ h4 _
          cases h4
        have h4 : Blk w1 w.heap.size 33 #[.slice none 0 0] := (HB2.out.next ((Below.refl W.heap.size W).alloc (Nat.le_refl _) _) HB2.out.lt).grown HG1.out (fun e => hne e.symm)
        exact h4.grown (row := some (w.heap.size + 1)) (only_setCell (only_of_below (Below.refl _ _) _) (.inl rfl) _) (by simp)
    · have n1 : (x.e != 0) = true := by rw [bne_iff_ne]; exact hx
      have HX := Lib.hid hx
      have HB2 := Lib.hid hb2
      clear hx hb2
      gi_wp2
      have h5 : Blk (W.setCell ⟨w.heap.size, 0, none⟩ (.slice none 0 0)) w.heap.size 33 #[.slice none 0 0] := HB2.out.set_ 0 (.slice none 0 0)
      exact ⟨(KeepsOthers.setCell _ _ _).from _, rfl, ⟨x, by simp, HX.out⟩, h5, hB.setCell (p := ⟨w.heap.size, 0, none⟩) (Nat.le_refl _) _⟩
  case done =>
    rintro D ys W hD rfl ⟨⟨⟨v, hv, hrow, _⟩, hB⟩, hpe, hb2⟩ hK
    have hc := hv.cell
    have y2 := hb2.cell 0
    have f2 := hb2.frozen 0
    simp only [List.getElem?_toArray, List.getElem?_cons_zero] at y2
    obtain ⟨A, cc, rfl, hcc⟩ := own_len hrow
    have HB2 := Lib.hid hb2
    have HKD := Lib.hid hK
    have HRW := Lib.hid (Rd.of_own hrow)
    clear hb2 hK hpe
    gi_wp2
    have h5 : Blk (W.setCell ⟨w.heap.size, 0, none⟩ (.slice A (PS s).length cc)) w.heap.size 33 #[.slice A (PS s).length cc] := HB2.out.set_ 0 _
    have hK2 : (W.setCell ⟨w.heap.size, 0, none⟩ (.slice A (PS s).length cc)).heap[D]? = some (.deferred (some [])) := (KeepsOthers.setCell _ _ _).same D _ HKD.out rfl
    have hB5 := hB.setCell (p := ⟨w.heap.size, 0, none⟩) (Nat.le_refl _) (.slice A (PS s).length cc)
    refine ⟨by simp, .inl ⟨_, _, rfl, run_takeDeferred hK2, ?_⟩⟩
    have hgp := grownBy_putObj' (W.setCell ⟨w.heap.size, 0, none⟩ (.slice A (PS s).length cc)) D (.deferred none)
    have hrp : ∀ r, some D = some r → w.heap.size ≤ r ∧ ∃ o : Obj, (W.setCell ⟨w.heap.size, 0, none⟩ (.slice A (PS s).length cc)).heap[r]? = some o ∧ o.isCells = false := fun r e => by injection e with e; subst e; exact ⟨by rw [hSz] at hD; omega, _, hK2, rfl⟩
    have h6 := (blk_own h5 hgp hrp).cell 0
    simp only [List.getElem?_toArray, List.getElem?_cons_zero] at h6
    refine ⟨.slice A (PS s).length cc, by simp [results, Tryz.results130, go_sem, h6], hB5.trans ⟨hgp.os, hgp.tape, hgp.output, hgp.size, fun i hi => hgp.block i (Nat.lt_of_lt_of_le hi hB5.size) (fun e => by injection e with e; rw [hSz] at hD; omega)⟩, A, _, cc, rfl, fun _ => ⟨rfl, ?_⟩⟩
    have hr1 := HRW.out.blk HB2.out (only_setCell (only_of_below (Below.refl W.heap.size W) (some w.heap.size)) (p := ⟨w.heap.size, 0, none⟩) (.inl rfl) (.slice A (PS s).length cc)) (by decide)
    have hr2 := hr1.kept hgp (fun g cs fr hr hh => by injection hr with hr; subst hr; rw [hK2] at hh; cases hh)
    show Rd _ _ _ (ordsL s).length _
    unfold ordsL
    rw [List.length_map, ords_fm]
    exact hr2
  case stop =>
    rintro D c pre W hD hpre ⟨rfl, ⟨p, hp, hpe⟩, hb2, hB⟩ hK
    have HB2 := Lib.hid hb2
    have HKD := Lib.hid hK
    have HNO : Hid (okP s = true → False) := Lib.hid fun h => hpe ((okP_iff s).1 h p (hpre.subset hp))
    clear hb2 hK hpe hpre hp
    gi_wp2
    have hK2 := HKD.out
    refine ⟨by simp, .inl ⟨_, _, rfl, run_takeDeferred hK2, ?_⟩⟩
    have hgp := grownBy_putObj' W D (.deferred none)
    have hrp : ∀ r, some D = some r → w.heap.size ≤ r ∧ ∃ o : Obj, W.heap[r]? = some o ∧ o.isCells = false := fun r e => by injection e with e; subst e; exact ⟨by rw [hSz] at hD; omega, _, hK2, rfl⟩
    have h6 := (blk_own HB2.out hgp hrp).cell 0
    simp only [List.getElem?_toArray, List.getElem?_cons_zero] at h6
    refine ⟨.slice none 0 0, by simp [results, Tryz.results130, go_sem, h6], hB.trans ⟨hgp.os, hgp.tape, hgp.output, hgp.size, fun i hi => hgp.block i (Nat.lt_of_lt_of_le hi hB.size) (fun e => by injection e with e; rw [hSz] at hD; omega)⟩, none, 0, 0, rfl, fun h => (HNO.out h).elim⟩
end
def cmpL : List Int → List Int → Int
  | [], [] => 0
  | [], _ :: _ => -1
  | _ :: _, [] => 1
  | a :: l, b :: m => if cmpI a b ≠ 0 then cmpI a b else cmpL l m
def SlRel (a b : List Int) (w : World) (i : Value) (wr : World) : Prop := ∃ k : Nat, k ≤ a.length ∧ k ≤ b.length ∧ i = .int .i64 k ∧ cmpL (a.drop k) (b.drop k) = cmpL a b ∧ wr = w
set_option maxRecDepth 100000 in
set_option maxHeartbeats 1000000 in
theorem slcmp_is {A1 A2 : Option Addr} {c1 c2 : Nat} {a b : List Int} {w : World} (h1 : RdIn w (.slice A1 a.length c1) a) (h2 : RdIn w (.slice A2 b.length c2) b) (la : a.length ≤ 100) (lb : b.length ≤ 100) : Calls Tryz.prog 129 #[.slice A1 a.length c1, .slice A2 b.length c2] w fun e w' => e = .returned (.int .i64 (cmpL a b)) ∧ w = w' := by
  have H1 := Lib.hid h1
  have H2 := Lib.hid h2
  obtain ⟨Q, hQ⟩ : ∃ Q, cmpL a b = Q := ⟨_, rfl⟩
  have HQ := Lib.hid hQ
  rw [hQ]
  clear h1 h2 hQ
  have H0 : Hid (SlRel a b w (.int .i64 (0 : Nat)) w) := Lib.hid ⟨0, Nat.zero_le _, Nat.zero_le _, rfl, by simp, rfl⟩
  go_enter Tryz.func129, Tryz.ntmps129
  go_wp2_with fail
  go_loopw [11] (fun i wr => SlRel a b w i wr) (fun i _ => a.length - (intOf i).toNat)
  case atStart => exact H0.out
  case round =>
    clear H0
    obtain ⟨k, hka, hkb, rfl, hz, hw⟩ := hrel
    have HZ := Lib.hid hz
    subst hw
    clear hz
    have j1 : (0 : Int) ≤ (k : Int) := by omega
    by_cases hk : k < a.length
    · have j2 : (k : Int) < (a.length : Int) := by omega
      have j3 : decide ((k : Int) < (a.length : Int)) = true := decide_eq_true j2
      obtain ⟨b1, o1, hb1, hl1, hc1⟩ := RdP.at_ H1.out inC_len hk
      subst hb1
      have x1 := hc1 0 _ rfl
      rw [Nat.mul_one, Nat.add_zero] at x1
      have HDA := Lib.hid (List.drop_eq_getElem_cons hk)
      obtain ⟨xa, hxa⟩ : ∃ x, a[k] = x := ⟨_, rfl⟩
      rw [hxa] at x1 HDA
      clear hc1 hxa
      by_cases hkb2 : k < b.length
      · have j4 : (k : Int) < (b.length : Int) := by omega
        have j5 : decide ((b.length : Int) ≤ (k : Int)) = false := decide_eq_false (by omega)
        obtain ⟨b2, o2, hb2, hl2, hc2⟩ := RdP.at_ H2.out inC_len hkb2
        subst hb2
        have x2 := hc2 0 _ rfl
        rw [Nat.mul_one, Nat.add_zero] at x2
        have HDB := Lib.hid (List.drop_eq_getElem_cons hkb2)
        obtain ⟨xb, hxb⟩ : ∃ x, b[k] = x := ⟨_, rfl⟩
        rw [hxb] at x2 HDB
        have HST := Lib.hid (show (if cmpI xa xb ≠ 0 then cmpI xa xb else cmpL (a.drop (k + 1)) (b.drop (k + 1))) = Q by rw [← HQ.out, ← HZ.out, HDA.out, HDB.out]; rfl)
        have HCI := Lib.hid (cmp_i xa xb wr)
        obtain ⟨q, hq⟩ : ∃ q, cmpI xa xb = q := ⟨_, rfl⟩
        rw [hq] at HST HCI
        clear hc2 hxb hq HDA HDB HZ
        by_cases hq0 : q = 0
        · have e1 : (q != 0) = false := by rw [hq0]; rfl
          have HQ0 := Lib.hid hq0
          clear hq0
          go_wp2_with (go_at_call 99; refine HCI.out.mono ?_; rintro e w1 ⟨rfl, rfl⟩)
          go_roundw
          case rel => exact ⟨k + 1, by omega, by omega, by go_num, by rw [HQ.out, ← HST.out, if_neg (fun h => h HQ0.out)], rfl⟩
          case measure => simp [intOf]; omega
        · have e1 : (q != 0) = true := by rw [bne_iff_ne]; exact hq0
          have HQ0 := Lib.hid hq0
          clear hq0
          go_wp2_with (go_at_call 99; refine HCI.out.mono ?_; rintro e w1 ⟨rfl, rfl⟩)
          go_ret
          exact ⟨by rw [← HST.out, if_pos HQ0.out]; rfl, rfl⟩
      · have j5 : decide ((b.length : Int) ≤ (k : Int)) = true := decide_eq_true (by omega)
        have HST := Lib.hid (show (1 : Int) = Q by rw [← HQ.out, ← HZ.out, HDA.out, List.drop_of_length_le (show b.length ≤ k by omega)]; rfl)
        clear HDA HZ
        go_wp2_with fail
        go_ret
        exact ⟨by rw [← HST.out]; rfl, rfl⟩
    · have j3 : decide ((k : Int) < (a.length : Int)) = false := decide_eq_false (by omega)
      have j4 : decide (k < a.length) = false := decide_eq_false hk
      have hka2 : k = a.length := by omega
      by_cases hl : a.length < b.length
      · have e1 : decide ((a.length : Int) < (b.length : Int)) = true := decide_eq_true (by omega)
        have e2 : decide (a.length < b.length) = true := decide_eq_true hl
        have HST := Lib.hid (show (-1 : Int) = Q by rw [← HQ.out, ← HZ.out, List.drop_of_length_le (show a.length ≤ k by omega), List.drop_eq_getElem_cons (show k < b.length by omega)]; rfl)
        clear HZ hka2 hk
        go_wp2_with fail
        go_ret
        exact ⟨by rw [← HST.out]; rfl, rfl⟩
      · have e1 : decide ((a.length : Int) < (b.length : Int)) = false := decide_eq_false (by omega)
        have e2 : decide (a.length < b.length) = false := decide_eq_false hl
        have HST := Lib.hid (show (0 : Int) = Q by rw [← HQ.out, ← HZ.out, List.drop_of_length_le (show a.length ≤ k by omega), List.drop_of_length_le (show b.length ≤ k by omega)]; rfl)
        clear HZ hka2 hk
        go_wp2_with fail
        go_ret
        exact ⟨by rw [← HST.out]; rfl, rfl⟩
set_option maxRecDepth 100000 in
theorem lin_cmp2 (a b : Bs) (w : World) (ha : okP (bs a) = true) (hb : okP (bs b) = true) : Calls Tryz.prog 91 #[.string (bs a), .string (bs b)] w fun e w' => e = .returned (.int .i64 (if a = b then 0 else cmpL (ordsL (bs a)) (ordsL (bs b)))) ∧ Below w.heap.size w w' := by
  by_cases hne : a = b
  · subst hne
    rw [if_pos rfl]
    refine (lin_same (bs a) w).mono ?_
    rintro e w' ⟨rfl, rfl⟩
    exact ⟨rfl, Below.refl _ _⟩
  · rw [if_neg hne]
    have e0 : ((bs a).toList == (bs b).toList) = false := by
      rw [bs_toList, bs_toList, beq_eq_false_iff_ne]
      exact hne
    have HA := Lib.hid ha
    have HB := Lib.hid hb
    have HLA := Lib.hid (show (ordsL (bs a)).length ≤ 100 by unfold ordsL; rw [List.length_map]; exact Nat.le_trans (PS_len _) (by omega))
    have HLB := Lib.hid (show (ordsL (bs b)).length ≤ 100 by unfold ordsL; rw [List.length_map]; exact Nat.le_trans (PS_len _) (by omega))
    have HEA := Lib.hid (show (PS (bs a)).length = (ordsL (bs a)).length by unfold ordsL; rw [List.length_map])
    have HEB := Lib.hid (show (PS (bs b)).length = (ordsL (bs b)).length by unfold ordsL; rw [List.length_map])
    have HVA := Lib.hid (fun W => valid_is (bs a) W)
    have HVB := Lib.hid (fun W => valid_is (bs b) W)
    have HOA := Lib.hid (fun W => ordinals_is (bs a) W)
    have HOB := Lib.hid (fun W => ordinals_is (bs b) W)
    clear ha hb hne
    generalize bs a = sa at *
    generalize bs b = sb at *
    go_enter Tryz.func91, Tryz.ntmps91
    have O1 : True := trivial
    have O2 : True := trivial
    go_wp2_with (first
      | (clear O1; go_at_call 28; refine (HVA.out _).mono ?_; rintro e w1 ⟨rfl, hb1⟩; rw [HA.out]; have HB1 := Lib.hid hb1; clear hb1)
      | (go_at_call 28; refine (HVB.out _).mono ?_; rintro e w2 ⟨rfl, hb2⟩; rw [HB.out]; have HB2 := Lib.hid (HB1.out.trans (hb2.mono HB1.out.size)); clear hb2)
      | (clear O2; go_at_call 130; refine (HOA.out _).mono ?_; rintro e w3 ⟨hb3, A3, n3, c3, rfl, hn3⟩; obtain ⟨rfl, hr3⟩ := hn3 HA.out; rw [HEA.out] at hr3 ⊢; have HR3 := Lib.hid hr3; have HB3 := Lib.hid (HB2.out.trans (hb3.mono HB2.out.size)); clear hb3 hn3 hr3)
      | (go_at_call 130; refine (HOB.out _).mono ?_; rintro e w4 ⟨hb4, A4, n4, c4, rfl, hn4⟩; obtain ⟨rfl, hr4⟩ := hn4 HB.out; rw [HEB.out] at hr4 ⊢; have HR4 := Lib.hid hr4; have HR34 := Lib.hid (RdP.next HR3.out hb4); have HB4 := Lib.hid (HB3.out.trans (hb4.mono HB3.out.size)); clear hb4 hn4 hr4)
      | (go_at_call 129; refine (slcmp_is HR34.out HR4.out HLA.out HLB.out).mono ?_; rintro e w5 ⟨rfl, rfl⟩))
    go_ret
    exact ⟨rfl, HB4.out⟩
theorem lin5_ok : ∀ a ∈ lin5, okP (bs a) = true := by decide +kernel
theorem lin5_cmp : ∀ a ∈ lin5, ∀ b ∈ lin5, (if a = b then (0 : Int) else cmpL (ordsL (bs a)) (ordsL (bs b))) = cmpS a b := by decide +kernel
theorem lin_cmp5 {a b : Bs} (w : World) (ha : a ∈ lin5) (hb : b ∈ lin5) : Calls Tryz.prog 91 #[.string (bs a), .string (bs b)] w fun e w' => e = .returned (.int .i64 (cmpS a b)) ∧ Below w.heap.size w w' := by
  have h := lin_cmp2 a b w (lin5_ok a ha) (lin5_ok b hb)
  rw [lin5_cmp a ha b hb] at h
  exact h
end Go.Proofs.YtamjllakfgphnaaGreatDoor
namespace Go.Proofs.YtamjllakfgphnaaGreatDoor
open Go.RowKit
set_option linter.unusedSimpArgs false
set_option linter.unusedVariables false
attribute [local go_sem ↓] Go.wp_at_zero Go.wp_at_succ
theorem own_lt {w : World} {base e s n : Nat} {v : Value} {xs : List Value} (h : w.ownsRow base e s v n xs) {g : Nat} (hg : v.ownBlock = some g) : g < w.heap.size := by
  obtain ⟨_, ⟨rfl, _⟩ | ⟨g', cap', cur, rfl, _, hh, _⟩⟩ := h
  · simp [Value.ownBlock] at hg
  · simp [Value.ownBlock] at hg
    subst hg
    exact (Array.getElem?_eq_some_iff.1 hh).1
theorem st0_v : StV [] := ⟨⟨List.Pairwise.nil, by simp⟩, by simp⟩
theorem only_set6 (w : World) (g : Nat) (u0 u1 u2 u3 u4 u5 : Value) : w.grownBy ((((((w.setCell ⟨g, 0, none⟩ u0).setCell ⟨g, 1, none⟩ u1).setCell ⟨g, 2, none⟩ u2).setCell ⟨g, 3, none⟩ u3).setCell ⟨g, 4, none⟩ u4).setCell ⟨g, 5, none⟩ u5) (some g) := only_setCell (p := ⟨g, 5, none⟩) (only_setCell (p := ⟨g, 4, none⟩) (only_setCell (p := ⟨g, 3, none⟩) (only_setCell (p := ⟨g, 2, none⟩) (only_setCell (p := ⟨g, 1, none⟩) (only_setCell (p := ⟨g, 0, none⟩) (World.grownBy.refl w (some g)) (.inl rfl) u0) (.inl rfl) u1) (.inl rfl) u2) (.inl rfl) u3) (.inl rfl) u4) (.inl rfl) u5
theorem below_set6 {B : Nat} {a w : World} (h : Below B a w) {g : Nat} (hg : B ≤ g) (u0 u1 u2 u3 u4 u5 : Value) : Below B a ((((((w.setCell ⟨g, 0, none⟩ u0).setCell ⟨g, 1, none⟩ u1).setCell ⟨g, 2, none⟩ u2).setCell ⟨g, 3, none⟩ u3).setCell ⟨g, 4, none⟩ u4).setCell ⟨g, 5, none⟩ u5) := ((((((h.setCell (p := ⟨g, 0, none⟩) hg u0).setCell (p := ⟨g, 1, none⟩) hg u1).setCell (p := ⟨g, 2, none⟩) hg u2).setCell (p := ⟨g, 3, none⟩) hg u3).setCell (p := ⟨g, 4, none⟩) hg u4).setCell (p := ⟨g, 5, none⟩) hg u5)
theorem own_apart {w w' : World} {base e size n : Nat} {v v0 : Value} {xs : List Value} (h : w.ownsRow base e size v n xs) (hg : w.grownBy w' v0.ownBlock) (ha : ∀ g, v0.ownBlock = some g → v.ownBlock ≠ some g) : w'.ownsRow base e size v n xs := by
  obtain ⟨h1, h2 | ⟨g, cap, cur, hv, hb, hh, r⟩⟩ := h
  · exact ⟨h1, .inl h2⟩
  · refine ⟨h1, .inr ⟨g, cap, cur, hv, hb, ?_, r⟩⟩
    rw [hg.block g (Array.getElem?_eq_some_iff.1 hh).1 (fun e => ha g e.symm (by rw [hv]; simp [Value.ownBlock]))]
    exact hh
theorem OwnAc.base {w : World} {b b' : Nat} {v : Value} {l : List Ac} (h : OwnAc w b v l) (hb : b' ≤ b) : OwnAc w b' v l := by
  obtain ⟨vs, h1, h2⟩ := h
  exact ⟨vs, h1, own_base h2 hb⟩
theorem infoAc : (Tryz.prog.info? 77).map (fun i => (i.zero, i.size, i.bytes)) = some (some (.agg #[.int .i64 0, .int .i64 0, .int .i64 0, .string ⟨#[]⟩, .slice none 0 0, .slice none 0 0]), 6, 88) := by kernel_rfl
set_option maxRecDepth 100000 in
theorem key_check (k : Ky) (w : World) (h : KyR k) : Calls Tryz.prog 167 #[kyV k] w fun e w' => e = .returned (.int .i64 (if 0 ≤ k.tick then 0 else 2)) ∧ Below w.heap.size w w' := by
  obtain ⟨t, c, n, l⟩ := k
  obtain ⟨⟨h1, h2⟩, hl, hk⟩ := h
  simp only at h1 h2 hl hk
  have hb := (Below.refl w.heap.size w).alloc (Nat.le_refl _) (.cells #[.int .i64 t, .int .i64 c, .int .i64 n, .string (bs l)] 74)
  have HB := Lib.hid hb
  clear hb
  unfold kyV
  by_cases h0 : 0 ≤ t
  · have HI := Lib.hid (show (if 0 ≤ t then (0 : Int) else 2) = 0 from if_pos h0)
    rw [HI.out]
    have f1 : decide (t < 0) = false := decide_eq_false (by omega)
    have f2 : decide (1073741824 < t) = false := decide_eq_false (by omega)
    rcases hk with ⟨rfl, h3, h4, rfl⟩ | ⟨rfl, rfl, hne⟩
    · have f3 : decide (n < 0) = false := decide_eq_false (by omega)
      have f4 : decide (999999 < n) = false := decide_eq_false (by omega)
      have f5 : (n == 0) = false := by simp; omega
      have f6 : ¬ n = 0 := by omega
      have hz : bs [] = ⟨#[]⟩ := rfl
      rw [hz] at HB ⊢
      clear hl
      go_enter Tryz.func167, Tryz.ntmps167
      go_wp2
      go_ret
      exact ⟨rfl, HB.out⟩
    · have HV := Lib.hid (fun W => valid_is (bs l) W)
      have HOK := Lib.hid (lin5_ok l hl)
      have e0 : (bs l).toList.isEmpty = false := by rw [bs_toList]; simpa [List.isEmpty_iff] using hne
      clear hl hne
      generalize bs l = s at *
      go_enter Tryz.func167, Tryz.ntmps167
      go_wp2_with (go_at_call 28; refine (HV.out _).mono ?_; rintro e w2 ⟨rfl, hb2⟩; rw [HOK.out]; obtain ⟨hc2, hf2⟩ := bcell hb2; have HB2 := Lib.hid (HB.out.trans (hb2.mono HB.out.size)); clear hb2)
      go_ret
      exact ⟨rfl, HB2.out⟩
  · have HI := Lib.hid (show (if 0 ≤ t then (0 : Int) else 2) = 2 from if_neg h0)
    rw [HI.out]
    have f1 : decide (t < 0) = true := decide_eq_true (by omega)
    clear hk hl
    go_enter Tryz.func167, Tryz.ntmps167
    go_wp2
    go_ret
    exact ⟨rfl, HB.out⟩
theorem or_4 (a b c d : Int) (w : World) (A : Nat) (h0 : w.cell? ⟨A, 0, none⟩ = some (.int .i64 a)) (h1 : w.cell? ⟨A, 1, none⟩ = some (.int .i64 b)) (h2 : w.cell? ⟨A, 2, none⟩ = some (.int .i64 c)) (h3 : w.cell? ⟨A, 3, none⟩ = some (.int .i64 d)) : Calls Tryz.prog 100 #[.slice (some ⟨A, 0, none⟩) 4 4] w fun e w' => e = .returned (.int .i64 (or4 a b c d)) ∧ w = w' := by
  have hc : Hid (or4 a b c d = if a ≠ 0 then a else if b ≠ 0 then b else if c ≠ 0 then c else d) := Lib.hid (by unfold or4 or3; by_cases h1 : a = 0 <;> by_cases h2 : b = 0 <;> by_cases h3 : c = 0 <;> simp [h1, h2, h3])
  go_enter Tryz.func100, Tryz.ntmps100
  go_wp2
  go_loop [8] (fun i => ∃ k : Nat, k ≤ 4 ∧ i = .int .i64 k ∧ (0 < k → a = 0) ∧ (1 < k → b = 0) ∧ (2 < k → c = 0) ∧ (3 < k → d = 0)) (fun i => 4 - (intOf i).toNat)
  case atStart => exact ⟨0, by omega, rfl, by omega, by omega, by omega, by omega⟩
  case round =>
    obtain ⟨k, hk, rfl, p0, p1, p2, p3⟩ := hrel
    have hcases : k = 0 ∨ k = 1 ∨ k = 2 ∨ k = 3 ∨ k = 4 := by omega
    rcases hcases with rfl | rfl | rfl | rfl | rfl
    · clear p0 p1 p2 p3 hk
      by_cases ha : a = 0
      · have e1 : (a != 0) = false := by simp [ha]
        go_wp2
        go_round
        case rel => exact ⟨1, by omega, rfl, fun _ => ha, by omega, by omega, by omega⟩
        case measure => simp [intOf]
      · have e1 : (a != 0) = true := by simp [ha]
        go_wp2
        go_ret
        exact ⟨by rw [hc.out, if_pos ha]; rfl, rfl⟩
    · have ha := p0 (by omega)
      clear p0 p1 p2 p3 hk
      by_cases hb : b = 0
      · have e1 : (b != 0) = false := by simp [hb]
        have HA := Lib.hid ha
        clear ha
        go_wp2
        go_round
        case rel => exact ⟨2, by omega, rfl, fun _ => HA.out, fun _ => hb, by omega, by omega⟩
        case measure => simp [intOf]
      · have e1 : (b != 0) = true := by simp [hb]
        have HA := Lib.hid ha
        clear ha
        go_wp2
        go_ret
        exact ⟨by rw [hc.out, if_neg (by simp [HA.out]), if_pos hb]; rfl, rfl⟩
    · have HA := Lib.hid (p0 (by omega))
      have HB := Lib.hid (p1 (by omega))
      clear p0 p1 p2 p3 hk
      by_cases hcc : c = 0
      · have e1 : (c != 0) = false := by simp [hcc]
        go_wp2
        go_round
        case rel => exact ⟨3, by omega, rfl, fun _ => HA.out, fun _ => HB.out, fun _ => hcc, by omega⟩
        case measure => simp [intOf]
      · have e1 : (c != 0) = true := by simp [hcc]
        go_wp2
        go_ret
        exact ⟨by rw [hc.out, if_neg (by simp [HA.out]), if_neg (by simp [HB.out]), if_pos hcc]; rfl, rfl⟩
    · have HA := Lib.hid (p0 (by omega))
      have HB := Lib.hid (p1 (by omega))
      have HC := Lib.hid (p2 (by omega))
      clear p0 p1 p2 p3 hk
      by_cases hd : d = 0
      · have e1 : (d != 0) = false := by simp [hd]
        go_wp2
        go_round
        case rel => exact ⟨4, by omega, rfl, fun _ => HA.out, fun _ => HB.out, fun _ => HC.out, fun _ => hd⟩
        case measure => simp [intOf]
      · have e1 : (d != 0) = true := by simp [hd]
        go_wp2
        go_ret
        exact ⟨by rw [hc.out, if_neg (by simp [HA.out]), if_neg (by simp [HB.out]), if_neg (by simp [HC.out])]; rfl, rfl⟩
    · have HA := Lib.hid (p0 (by omega))
      have HB := Lib.hid (p1 (by omega))
      have HC := Lib.hid (p2 (by omega))
      have HD := Lib.hid (p3 (by omega))
      clear p0 p1 p2 p3 hk
      go_wp2
      go_ret
      exact ⟨by rw [hc.out, if_neg (by simp [HA.out]), if_neg (by simp [HB.out]), if_neg (by simp [HC.out]), HD.out]; rfl, rfl⟩
set_option maxRecDepth 100000 in
set_option maxHeartbeats 1000000 in
theorem key_compare (a k : Ky) (w : World) (ha : a.lin ∈ lin5) (hk : k.lin ∈ lin5) : Calls Tryz.prog 95 #[kyV a, kyV k] w fun e w' => e = .returned (.int .i64 (cmpK a k)) ∧ Below w.heap.size w w' := by
  have HN := Lib.hid (cmp_i a.tick k.tick)
  have HI := Lib.hid (cmp_i a.cls k.cls)
  have HT := Lib.hid (cmp_i a.num k.num)
  have HO := Lib.hid (fun W => lin_cmp5 W ha hk)
  unfold kyV cmpK
  generalize cmpI a.tick k.tick = c1 at *
  generalize cmpI a.cls k.cls = c2 at *
  generalize cmpI a.num k.num = c3 at *
  generalize cmpS a.lin k.lin = c4 at *
  have hb : Below w.heap.size w ((w.alloc (.cells #[.int .i64 a.tick, .int .i64 a.cls, .int .i64 a.num, .string (bs a.lin)] 74)).alloc (.cells #[.int .i64 k.tick, .int .i64 k.cls, .int .i64 k.num, .string (bs k.lin)] 74)) := ((Below.refl _ _).alloc (Nat.le_refl _) _).alloc (by simp) _
  have b0 := (Blk.new w 74 #[.int .i64 a.tick, .int .i64 a.cls, .int .i64 a.num, .string (bs a.lin)]).alloc (.cells #[.int .i64 k.tick, .int .i64 k.cls, .int .i64 k.num, .string (bs k.lin)] 74)
  have b1 := Blk.new (w.alloc (.cells #[.int .i64 a.tick, .int .i64 a.cls, .int .i64 a.num, .string (bs a.lin)] 74)) 74 #[.int .i64 k.tick, .int .i64 k.cls, .int .i64 k.num, .string (bs k.lin)]
  rw [World.size_alloc] at b1
  have x0 := b0.cell 0
  have x1 := b0.cell 1
  have x2 := b0.cell 2
  have x3 := b0.cell 3
  have y0 := b1.cell 0
  have y1 := b1.cell 1
  have y2 := b1.cell 2
  have y3 := b1.cell 3
  have hcb := b0.lt
  have hdb := b1.lt
  simp only [qB, qC, qD] at x0 x1 x2 x3 y0 y1 y2 y3
  have HB := Lib.hid hb
  clear b0 b1 hb ha hk
  go_enter Tryz.func95, Tryz.ntmps95
  go_upto_region 1 with (fail)
  generalize ((w.alloc (.cells #[.int .i64 a.tick, .int .i64 a.cls, .int .i64 a.num, .string (bs a.lin)] 74)).alloc (.cells #[.int .i64 k.tick, .int .i64 k.cls, .int .i64 k.num, .string (bs k.lin)] 74)) = W at *
  obtain ⟨db, hdbe⟩ : ∃ db, w.heap.size + 1 = db := ⟨_, rfl⟩
  rw [hdbe] at y0 y1 y2 y3 hdb ⊢
  obtain ⟨cb, hcbe⟩ : ∃ cb, w.heap.size = cb := ⟨_, rfl⟩
  have HCB := Lib.hid hcbe
  rw [hcbe] at x0 x1 x2 x3 hcb ⊢
  clear hdbe hcbe
  refine wp_region_noPanic ?_
  refine wp_region_held_drew (S := (fun (w' : World) => w'.cell? ⟨cb, 0, none⟩ = some (.int .i64 a.tick) ∧ w'.cell? ⟨cb, 1, none⟩ = some (.int .i64 a.cls) ∧ w'.cell? ⟨cb, 2, none⟩ = some (.int .i64 a.num) ∧ w'.cell? ⟨cb, 3, none⟩ = some (.string (bs a.lin)) ∧ w'.cell? ⟨db, 0, none⟩ = some (.int .i64 k.tick) ∧ w'.cell? ⟨db, 1, none⟩ = some (.int .i64 k.cls) ∧ w'.cell? ⟨db, 2, none⟩ = some (.int .i64 k.num) ∧ w'.cell? ⟨db, 3, none⟩ = some (.string (bs k.lin)))) (by kernel_rfl) ?_ (fun hHeld => ?_)
  · exact ⟨x0, x1, x2, x3, y0, y1, y2, y3⟩
  refine tk (v := ?_) 0 rfl (by kernel_rfl) (fun _ _ _ h => h) ?_ hHeld ?_
  rotate_left
  · (intro w h; (try dsimp only at h); go_simp; try with_reducible rfl)
  try simp only [Act.put, pB, pC, pD]
  refine tk (v := ?_) 1 rfl (by kernel_rfl) (fun _ _ _ h => h) ?_ hHeld ?_
  rotate_left
  · (intro w h; (try dsimp only at h); go_simp; try with_reducible rfl)
  try simp only [Act.put, pB, pC, pD]
  refine tk (v := ?_) 2 rfl (by kernel_rfl) (fun _ _ _ h => h) ?_ hHeld ?_
  rotate_left
  · (intro w h; (try dsimp only at h); go_simp; try with_reducible rfl)
  try simp only [Act.put, pB, pC, pD]
  refine tk (v := ?_) 3 rfl (by kernel_rfl) (fun _ _ _ h => h) ?_ hHeld ?_
  rotate_left
  · (intro w h; (try dsimp only at h); go_simp; try with_reducible rfl)
  try simp only [Act.put, pB, pC, pD]
  refine tk (v := ?_) 5 rfl (by kernel_rfl) (fun _ _ _ h => h) ?_ hHeld ?_
  rotate_left
  · (intro w h; (try dsimp only at h); go_simp; try with_reducible rfl)
  try simp only [Act.put, pB, pC, pD]
  refine tk (v := ?_) 6 rfl (by kernel_rfl) (fun _ _ _ h => h) ?_ hHeld ?_
  rotate_left
  · (intro w h; (try dsimp only at h); go_simp; try with_reducible rfl)
  try simp only [Act.put, pB, pC, pD]
  refine tk (v := ?_) 7 rfl (by kernel_rfl) (fun _ _ _ h => h) ?_ hHeld ?_
  rotate_left
  · (intro w h; (try dsimp only at h); go_simp; try with_reducible rfl)
  try simp only [Act.put, pB, pC, pD]
  refine tk (v := ?_) 8 rfl (by kernel_rfl) (fun _ _ _ h => h) ?_ hHeld ?_
  rotate_left
  · (intro w h; (try dsimp only at h); go_simp; try with_reducible rfl)
  try simp only [Act.put, pB, pC, pD]
  refine tk (v := ?_) 10 rfl (by kernel_rfl) (fun _ _ _ h => h) ?_ hHeld ?_
  rotate_left
  · (intro w h; (try dsimp only at h); go_simp; try with_reducible rfl)
  try simp only [Act.put, pB, pC, pD]
  refine tk (v := ?_) 11 rfl (by kernel_rfl) (fun _ _ _ h => h) ?_ hHeld ?_
  rotate_left
  · (intro w h; (try dsimp only at h); go_simp; try with_reducible rfl)
  try simp only [Act.put, pB, pC, pD]
  refine tk (v := ?_) 12 rfl (by kernel_rfl) (fun _ _ _ h => h) ?_ hHeld ?_
  rotate_left
  · (intro w h; (try dsimp only at h); go_simp; try with_reducible rfl)
  try simp only [Act.put, pB, pC, pD]
  refine tk (v := ?_) 13 rfl (by kernel_rfl) (fun _ _ _ h => h) ?_ hHeld ?_
  rotate_left
  · (intro w h; (try dsimp only at h); go_simp; try with_reducible rfl)
  try simp only [Act.put, pB, pC, pD]
  refine tk (v := ?_) 15 rfl (by kernel_rfl) (fun _ _ _ h => h) ?_ hHeld ?_
  rotate_left
  · (intro w h; (try dsimp only at h); go_simp; try with_reducible rfl)
  try simp only [Act.put, pB, pC, pD]
  refine tk (v := ?_) 16 rfl (by kernel_rfl) (fun _ _ _ h => h) ?_ hHeld ?_
  rotate_left
  · (intro w h; (try dsimp only at h); go_simp; try with_reducible rfl)
  try simp only [Act.put, pB, pC, pD]
  refine tk (v := ?_) 17 rfl (by kernel_rfl) (fun _ _ _ h => h) ?_ hHeld ?_
  rotate_left
  · (intro w h; (try dsimp only at h); go_simp; try with_reducible rfl)
  try simp only [Act.put, pB, pC, pD]
  refine tk (v := ?_) 18 rfl (by kernel_rfl) (fun _ _ _ h => h) ?_ hHeld ?_
  rotate_left
  · (intro w h; (try dsimp only at h); go_simp; try with_reducible rfl)
  try simp only [Act.put, pB, pC, pD]
  refine wpAnyH_ready (rs := [4]) (by kernel_rfl) (by simp) ?_
  refine AllReadyH.cons rfl (fun K hK => ?_) AllReadyH.nil
  go_simp
  refine (HN.out _).mono ?_; rintro e w' ⟨rfl, rfl⟩
  try (go_wp2_with fail)
  refine hK.out _ _ ?_ (fun hNew => ?_)
  · exact ⟨x0, x1, x2, x3, y0, y1, y2, y3⟩
  clear hK K hHeld
  have hHeld := hNew
  clear hNew
  try simp only [Act.put, pB, pC, pD]
  refine wpAnyH_ready (rs := [9]) (by kernel_rfl) (by simp) ?_
  refine AllReadyH.cons rfl (fun K hK => ?_) AllReadyH.nil
  go_simp
  refine (HI.out _).mono ?_; rintro e w' ⟨rfl, rfl⟩
  try (go_wp2_with fail)
  refine hK.out _ _ ?_ (fun hNew => ?_)
  · exact ⟨x0, x1, x2, x3, y0, y1, y2, y3⟩
  clear hK K hHeld
  have hHeld := hNew
  clear hNew
  try simp only [Act.put, pB, pC, pD]
  refine wpAnyH_ready (rs := [14]) (by kernel_rfl) (by simp) ?_
  refine AllReadyH.cons rfl (fun K hK => ?_) AllReadyH.nil
  go_simp
  refine (HT.out _).mono ?_; rintro e w' ⟨rfl, rfl⟩
  try (go_wp2_with fail)
  refine hK.out _ _ ?_ (fun hNew => ?_)
  · exact ⟨x0, x1, x2, x3, y0, y1, y2, y3⟩
  clear hK K hHeld
  have hHeld := hNew
  clear hNew
  try simp only [Act.put, pB, pC, pD]
  refine wpAnyH_ready (rs := [19]) (by kernel_rfl) (by simp) ?_
  refine AllReadyH.cons rfl (fun K hK => ?_) AllReadyH.nil
  go_simp
  refine (HO.out W.drew).mono ?_; rintro e w3 ⟨rfl, hb3⟩; have HB3 := Lib.hid ((Below.refl W.heap.size W).drew.trans hb3); clear hb3
  try (go_wp2_with fail)
  refine hK.out _ _ ?_ (fun hNew => ?_)
  · exact ⟨(HB3.out.cell (p := ⟨cb, 0, none⟩) hcb).trans x0, (HB3.out.cell (p := ⟨cb, 1, none⟩) hcb).trans x1, (HB3.out.cell (p := ⟨cb, 2, none⟩) hcb).trans x2, (HB3.out.cell (p := ⟨cb, 3, none⟩) hcb).trans x3, (HB3.out.cell (p := ⟨db, 0, none⟩) hdb).trans y0, (HB3.out.cell (p := ⟨db, 1, none⟩) hdb).trans y1, (HB3.out.cell (p := ⟨db, 2, none⟩) hdb).trans y2, (HB3.out.cell (p := ⟨db, 3, none⟩) hdb).trans y3⟩
  clear hK K hHeld
  have hHeld := hNew
  clear hNew
  try simp only [Act.put, pB, pC, pD]
  refine wpAnyH_ready (rs := [20]) (by kernel_rfl) (by simp) ?_
  refine AllReadyH.cons rfl (fun K hK => ?_) AllReadyH.nil
  go_simp
  refine hK.out _ _ ?_ (fun hNew => ?_)
  · exact ⟨((HB3.out.alloc HB3.out.size (.cells #[.int .i64 c1, .int .i64 c2, .int .i64 c3, .int .i64 c4] 3)).cell (p := ⟨cb, 0, none⟩) hcb).trans x0, ((HB3.out.alloc HB3.out.size (.cells #[.int .i64 c1, .int .i64 c2, .int .i64 c3, .int .i64 c4] 3)).cell (p := ⟨cb, 1, none⟩) hcb).trans x1, ((HB3.out.alloc HB3.out.size (.cells #[.int .i64 c1, .int .i64 c2, .int .i64 c3, .int .i64 c4] 3)).cell (p := ⟨cb, 2, none⟩) hcb).trans x2, ((HB3.out.alloc HB3.out.size (.cells #[.int .i64 c1, .int .i64 c2, .int .i64 c3, .int .i64 c4] 3)).cell (p := ⟨cb, 3, none⟩) hcb).trans x3, ((HB3.out.alloc HB3.out.size (.cells #[.int .i64 c1, .int .i64 c2, .int .i64 c3, .int .i64 c4] 3)).cell (p := ⟨db, 0, none⟩) hdb).trans y0, ((HB3.out.alloc HB3.out.size (.cells #[.int .i64 c1, .int .i64 c2, .int .i64 c3, .int .i64 c4] 3)).cell (p := ⟨db, 1, none⟩) hdb).trans y1, ((HB3.out.alloc HB3.out.size (.cells #[.int .i64 c1, .int .i64 c2, .int .i64 c3, .int .i64 c4] 3)).cell (p := ⟨db, 2, none⟩) hdb).trans y2, ((HB3.out.alloc HB3.out.size (.cells #[.int .i64 c1, .int .i64 c2, .int .i64 c3, .int .i64 c4] 3)).cell (p := ⟨db, 3, none⟩) hdb).trans y3⟩
  clear hK K hHeld
  have hHeld := hNew
  clear hNew
  try simp only [Act.put, pB, pC, pD]
  refine wpAnyH_ready (rs := [21]) (by kernel_rfl) (by simp) ?_
  refine AllReadyH.cons rfl (fun K hK => ?_) AllReadyH.nil
  go_simp
  refine (or_4 c1 c2 c3 c4 _ w3.heap.size ((Blk.new w3 3 #[.int .i64 c1, .int .i64 c2, .int .i64 c3, .int .i64 c4]).cell 0) ((Blk.new w3 3 #[.int .i64 c1, .int .i64 c2, .int .i64 c3, .int .i64 c4]).cell 1) ((Blk.new w3 3 #[.int .i64 c1, .int .i64 c2, .int .i64 c3, .int .i64 c4]).cell 2) ((Blk.new w3 3 #[.int .i64 c1, .int .i64 c2, .int .i64 c3, .int .i64 c4]).cell 3)).mono ?_; rintro e w' ⟨rfl, rfl⟩
  try (go_wp2_with fail)
  refine hK.out _ _ ?_ (fun hNew => ?_)
  · exact ⟨((HB3.out.alloc HB3.out.size (.cells #[.int .i64 c1, .int .i64 c2, .int .i64 c3, .int .i64 c4] 3)).cell (p := ⟨cb, 0, none⟩) hcb).trans x0, ((HB3.out.alloc HB3.out.size (.cells #[.int .i64 c1, .int .i64 c2, .int .i64 c3, .int .i64 c4] 3)).cell (p := ⟨cb, 1, none⟩) hcb).trans x1, ((HB3.out.alloc HB3.out.size (.cells #[.int .i64 c1, .int .i64 c2, .int .i64 c3, .int .i64 c4] 3)).cell (p := ⟨cb, 2, none⟩) hcb).trans x2, ((HB3.out.alloc HB3.out.size (.cells #[.int .i64 c1, .int .i64 c2, .int .i64 c3, .int .i64 c4] 3)).cell (p := ⟨cb, 3, none⟩) hcb).trans x3, ((HB3.out.alloc HB3.out.size (.cells #[.int .i64 c1, .int .i64 c2, .int .i64 c3, .int .i64 c4] 3)).cell (p := ⟨db, 0, none⟩) hdb).trans y0, ((HB3.out.alloc HB3.out.size (.cells #[.int .i64 c1, .int .i64 c2, .int .i64 c3, .int .i64 c4] 3)).cell (p := ⟨db, 1, none⟩) hdb).trans y1, ((HB3.out.alloc HB3.out.size (.cells #[.int .i64 c1, .int .i64 c2, .int .i64 c3, .int .i64 c4] 3)).cell (p := ⟨db, 2, none⟩) hdb).trans y2, ((HB3.out.alloc HB3.out.size (.cells #[.int .i64 c1, .int .i64 c2, .int .i64 c3, .int .i64 c4] 3)).cell (p := ⟨db, 3, none⟩) hdb).trans y3⟩
  clear hK K hHeld
  have hHeld := hNew
  clear hNew
  try simp only [Act.put, pB, pC, pD]
  refine tk (v := ?_) 22 rfl (by kernel_rfl) (fun _ _ _ h => h) ?_ hHeld ?_
  rotate_left
  · (intro w h; (try dsimp only at h); go_simp; try with_reducible rfl)
  try simp only [Act.put, pB, pC, pD]
  refine wpAnyH_done (by kernel_rfl) ?_ _
  clear hHeld
  try simp only [List.getElem_toArray, List.getElem_cons_zero, List.getElem_cons_succ, Act.put, pB, pC, pD]
  refine NoPanic.normal ?_
  go_wp2_with fail
  go_ret
  exact ⟨rfl, HB.out.trans ((HB3.out.alloc HB3.out.size _).mono HB.out.size)⟩
end Go.Proofs.YtamjllakfgphnaaGreatDoor
