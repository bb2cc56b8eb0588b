/- What the new texts of law47 need of the earlier laws besides: keys in a row, entries taken away. -/
import Derived.Test.YtmjkcanjfjfkfaaE1
namespace Go.Proofs.Ytmjkcanjfjfkfaa
open Go.RowKit Go.MapKept Go.ChangeMaps
set_option linter.unusedSimpArgs false
set_option linter.unusedVariables false
abbrev RdKy (w : World) (v : Value) (l : List Ky) : Prop := RdP 56 kyC w v l
theorem RdKy.piece {w : World} {A : Option Addr} {n c : Nat} {l : List Ky} (h : RdKy w (.slice A n c) l) {k : Nat} (hk : k < l.length) : ∃ b o, A = some ⟨b, o, none⟩ ∧ b < w.heap.size ∧
    w.cell? ⟨b, o + k * 4, none⟩ = some (.int .i64 l[k].tick) ∧ w.cell? ⟨b, o + k * 4 + 1, none⟩ = some (.int .i64 l[k].cls) ∧ w.cell? ⟨b, o + k * 4 + 2, none⟩ = some (.int .i64 l[k].num) ∧ w.cell? ⟨b, o + k * 4 + 3, none⟩ = some (.string (bs l[k].lin)) := by
  obtain ⟨b, o, e, hb, hc⟩ := RdP.at_ h kyC_len hk
  exact ⟨b, o, e, hb, hc 0 _ rfl, hc 1 _ rfl, hc 2 _ rfl, hc 3 _ rfl⟩
theorem delM_mem {κ ν : Type} [DecidableEq κ] {n : κ} : ∀ {l : List (κ × ν)} {p : κ × ν}, p ∈ delM n l → p ∈ l
  | [], _, h => h
  | (a, v) :: l, p, h => by
    simp only [delM] at h
    split at h
    · exact List.mem_cons_of_mem _ h
    · rcases List.mem_cons.1 h with rfl | h
      · exact List.mem_cons_self ..
      · exact List.mem_cons_of_mem _ (delM_mem h)
theorem delM_ne {κ ν : Type} [DecidableEq κ] {n : κ} : ∀ {l : List (κ × ν)} {p : κ × ν}, (l.Pairwise fun p q => p.1 ≠ q.1) → p ∈ delM n l → p.1 ≠ n
  | [], _, _, h => by cases h
  | (a, v) :: l, p, hp, h => by
    obtain ⟨h1, h2⟩ := List.pairwise_cons.1 hp
    simp only [delM] at h
    split at h
    · rename_i e
      exact fun e2 => h1 p h (e.trans e2.symm)
    · rename_i e
      rcases List.mem_cons.1 h with rfl | h
      · exact e
      · exact delM_ne h2 h
theorem delM_sub {κ ν : Type} [DecidableEq κ] {n : κ} : ∀ {l : List (κ × ν)}, (delM n l).Sublist l
  | [] => List.Sublist.slnil
  | (a, v) :: l => by
    simp only [delM]
    split
    · exact List.sublist_cons_self _ _
    · exact (delM_sub (l := l)).cons_cons _
theorem MapRowsS.del {α : Type} {f : α → List Value} {s : Nat} {e : TypeId} {w w2 : World} {F : Nat → Prop} {b : Nat} {D : Bs → List α} {ents : List (Bs × Value)} (h : F b ∧ MapAtS w b ents ∧ (ents.Pairwise fun p q => p.1 ≠ q.1 ∧ p.2.ownBlock ≠ q.2.ownBlock) ∧
    (∀ p ∈ ents, OwnF F e s w p.2 (D p.1).length ((D p.1).flatMap f) ∧ D p.1 ≠ []) ∧ ∀ n, D n ≠ [] → (lookM n ents).isSome = true) (n : Bs) (h2 : MapAtS w2 b (delM n ents)) (hg : w.grownBy w2 (some b)) :
    MapRowsS e s f w2 F b (fun m => if m = n then [] else D m) := by
  obtain ⟨h1, h3, h4, h5, h6⟩ := h
  have hpn : ents.Pairwise fun p q => p.1 ≠ q.1 := h4.imp fun h => h.1
  obtain ⟨es, c, hb, _⟩ := h3
  refine ⟨h1, _, h2, h4.sublist delM_sub, fun p hp => ?_, fun m hm => ?_⟩
  · have hpe := delM_ne hpn hp
    obtain ⟨k1, k2⟩ := h5 p (delM_mem hp)
    simp only [if_neg hpe]
    exact ⟨⟨k1.1.kept hg (.inr (own_not_map k1.1 hb)), k1.2⟩, k2⟩
  · by_cases hmn : m = n
    · simp [hmn] at hm
    · simp only [if_neg hmn] at hm
      rw [delM_look hmn]
      exact h6 m hm
theorem MapRowsS.keepB {α : Type} {f : α → List Value} {s : Nat} {e : TypeId} {w w' : World} {F : Nat → Prop} {b B : Nat} {D : Bs → List α} (h : MapRowsS e s f w F b D) (hF : ∀ i, F i → i < B) (hb : Below B w w') : MapRowsS e s f w' F b D :=
  h.keep (fun es c h1 _ => hb.block _ (hF _ h1)) (fun g cs h1 _ => hb.block _ (hF _ h1)) fun _ _ h => h
theorem nm_injS {a b : Bs} (h : skV a = skV b) : a = b := by
  injection h with h; exact bs_inj h
theorem same_nmS (a : Bs) : Instr.sameBits 10000 (skV a) (skV a) = true := by
  have hb : ∀ b : ByteArray, (b == b) = true := fun b => (bytes_beq b b).2 rfl
  simp [Instr.sameBits, hb]
theorem map_lookS {w : World} {b : Nat} {ents : List (Bs × Value)} (h : MapAtS w b ents) (n : Bs) {t E : TypeId} (ht : Try.prog.underlying t = some (.map 39 E)) {z : Value} (hz : (zeroValue E).run Try.prog w = .ok z w) :
    (Instr.lookup t (.map (some b)) (skV n) false).run Try.prog w = .ok ((lookM n ents).getD z) w := by
  obtain ⟨es, c, hb, he, hs⟩ := h
  rw [← posM_look n ents 0]
  cases hp : posM n ents 0 with
  | none => simp [Instr.lookup, run_underlying ht, MapKept.run_getObj_map hb, chk_nmS, key_nmS n w he, hp, hz, Result.andThen]
  | some q => simp [Instr.lookup, run_underlying ht, MapKept.run_getObj_map hb, chk_nmS, key_nmS n w he, hp, hz, Result.andThen]
theorem map_putS {w : World} {b : Nat} {ents : List (Bs × Value)} (h : MapAtS w b ents) (n : Bs) (v : Value) {t E : TypeId} (ht : Try.prog.underlying t = some (.map 39 E)) :
    ∃ w', (Instr.mapUpdate t (.map (some b)) (skV n) v).run Try.prog w = .ok () w' ∧ MapAtS w' b (putM n v ents) ∧ w.grownBy w' (some b) := by
  obtain ⟨es, c, hb, he, hs⟩ := h
  have hlen : es.size = ents.length := by have := congrArg List.length he; simpa using this
  have key : ∀ o : Obj, (w.grownBy (setBlock w b o) (some b)) := fun o => ⟨rfl, rfl, rfl, by simp [setBlock], fun i _ hi => heap_setBlock_other hb _ (fun e1 => hi (by rw [e1]))⟩
  cases hp : posM n ents 0 with
  | none =>
    obtain ⟨h1, h2⟩ := posM_none v hp
    refine ⟨setBlock w b (.map (es.push { key := skV n, val := v, born := c }) (c + 1)), ?_, ⟨_, _, heap_setBlock_same hb _, ?_, ?_⟩, key _⟩
    · simp [Instr.mapUpdate, run_underlying ht, MapKept.run_getObj_map hb, chk_nmS, key_nmS n w he, hp, MapKept.run_setObj_map _ hb, Result.andThen, setBlock]
    · rw [h2]
      simp [he]
    · refine stamped_push hs fun x hx e => ?_
      have hm : (x.key, x.val) ∈ es.toList.map fun e => (e.key, e.val) := List.mem_map.2 ⟨x, hx, rfl⟩
      rw [he] at hm
      obtain ⟨p, hp1, hp2⟩ := List.mem_map.1 hm
      injection hp2 with hp2 _
      exact h1 p hp1 (nm_injS (hp2.trans e))
  | some q =>
    obtain ⟨j, u⟩ := q
    obtain ⟨k, hj, h1, h2⟩ := posM_some v hp
    rw [Nat.zero_add] at hj
    subst hj
    have hk : j < es.size := by
      rw [hlen]
      exact (List.getElem?_eq_some_iff.1 h1).1
    have hg : es[j]? = some es[j] := Array.getElem?_eq_getElem hk
    have hkey : es[j].key = skV n := by
      have e1 : (es.toList.map fun e => (e.key, e.val))[j]? = some (es[j].key, es[j].val) := by simp [hg]
      rw [he, List.getElem?_map, h1] at e1
      simp only [Option.map_some, Option.some.injEq, Prod.mk.injEq] at e1
      exact e1.1.symm
    refine ⟨setBlock w b (.map (es.modify j fun e => { e with key := skV n, val := v }) c), ?_, ⟨_, _, heap_setBlock_same hb _, ?_, ?_⟩, key _⟩
    · have hst : (Instr.keyThatStays (skV n) (skV n)).run Try.prog w = .ok (skV n) w := by simp [Instr.keyThatStays, same_nmS]
      simp [Instr.mapUpdate, run_underlying ht, MapKept.run_getObj_map hb, chk_nmS, key_nmS n w he, hp, hg, hkey, hst, MapKept.run_setObj_map _ hb, Result.andThen, setBlock]
    · rw [h2]
      apply List.ext_getElem?
      intro i
      have e1 : (es.toList.map fun e => (e.key, e.val))[i]? = (ents.map fun p => (skV p.1, p.2))[i]? := by rw [he]
      simp only [List.getElem?_map, Array.getElem?_toList, Array.getElem?_modify, List.getElem?_set] at e1 ⊢
      by_cases hij : j = i
      · subst hij
        rw [hg]
        simp [← hlen, hk]
      · simp only [if_neg hij]
        exact e1
    · exact stamped_modify hs _ _ (fun _ _ => rfl) fun e _ hej => by
        rw [hg] at hej
        cases hej
        exact hkey.symm
theorem GAt.keyrow {w : World} {B g : Nat} {l : List Ac} (h : GAt w B g l) : ∃ A c, w.cell? ⟨g, 0, none⟩ = some (.slice A l.length c) ∧ RdKy w (.slice A l.length c) (l.map Ac.key) := by
  obtain ⟨vk, vl, vu, bw, vL, vU, h⟩ := h
  obtain ⟨A, c, hv, _⟩ := own_len h.ky
  have h1 := h.blk.cell 0
  simp only [List.getElem?_toArray, List.getElem?_cons_zero] at h1
  rw [List.length_map] at hv
  exact ⟨A, c, by rw [h1, hv], by rw [← hv]; exact Rd.of_own h.ky⟩
theorem prK_at {l : List Ac} {k : Nat} (hk : k < l.length) : prK (l.map Ac.key) (k : Int) = if l[k].key.cls = 0 then none else some l[k].key.lin := by
  unfold prK
  rw [Int.toNat_natCast, List.getElem?_map, List.getElem?_eq_getElem hk]
  rfl
end Go.Proofs.Ytmjkcanjfjfkfaa
