/- Walks of layer 47: sets of names, states; the names of a set. -/
import Derived.Test.YtmjkcanjfjfkfaaE1
import Derived.Test.YtmjkcanjfjfkfaaP1
namespace Go.Proofs.Ytmjkcanjfjfkfaa
open Go.RowKit
set_option linter.unusedSimpArgs false
set_option linter.unusedVariables false
attribute [local go_sem ↓] Go.wp_at_zero Go.wp_at_succ
open Go.MapKept Go.ChangeMaps
/-- A set of names in memory. -/
def BMap (w : World) (b : Nat) (l : List Nm) : Prop := MapAt w b (l.map fun n => (n, Value.bool true))
/-- Names with texts in memory. -/
def SMapL (w : World) (b : Nat) (l : List (Nm × Bs)) : Prop := MapAt w b (l.map fun p => (p.1, Value.string (bs p.2)))
/-- A state in memory. -/
def SMap (w : World) (b : Nat) (s : S47) : Prop := ∃ l, SMapL w b l ∧ ∀ n, lookM n l = s n
theorem BMap.next {w w' : World} {b : Nat} {l : List Nm} (h : BMap w b l) (hb : Below w.heap.size w w') : BMap w' b l := MapAt.next h hb
theorem BMap.same {w w' : World} {b : Nat} {l : List Nm} (h : BMap w b l) (e : w'.heap[b]? = w.heap[b]?) : BMap w' b l := MapAt.same h e
theorem BMap.lt {w : World} {b : Nat} {l : List Nm} (h : BMap w b l) : b < w.heap.size := MapAt.lt h
theorem SMapL.next {w w' : World} {b : Nat} {l : List (Nm × Bs)} (h : SMapL w b l) (hb : Below w.heap.size w w') : SMapL w' b l := MapAt.next h hb
theorem SMapL.same {w w' : World} {b : Nat} {l : List (Nm × Bs)} (h : SMapL w b l) (e : w'.heap[b]? = w.heap[b]?) : SMapL w' b l := MapAt.same h e
theorem SMapL.lt {w : World} {b : Nat} {l : List (Nm × Bs)} (h : SMapL w b l) : b < w.heap.size := MapAt.lt h
theorem SMap.next {w w' : World} {b : Nat} {s : S47} (h : SMap w b s) (hb : Below w.heap.size w w') : SMap w' b s := by
  obtain ⟨l, h1, h2⟩ := h
  exact ⟨l, h1.next hb, h2⟩
theorem SMap.same {w w' : World} {b : Nat} {s : S47} (h : SMap w b s) (e : w'.heap[b]? = w.heap[b]?) : SMap w' b s := by
  obtain ⟨l, h1, h2⟩ := h
  exact ⟨l, h1.same e, h2⟩
theorem SMap.lt {w : World} {b : Nat} {s : S47} (h : SMap w b s) : b < w.heap.size := by
  obtain ⟨l, h1, h2⟩ := h
  exact h1.lt
theorem MapAt.noCells {w : World} {b g : Nat} {l : List (Nm × Value)} (h : MapAt w b l) {t : TypeId} {cs : Array Value} (hb : Blk w g t cs) : some g ≠ some b := by
  intro e
  injection e with e
  subst e
  obtain ⟨es, c, h1, _⟩ := h
  unfold Blk at hb
  rw [h1] at hb
  cases hb
theorem putM_add (n : Nm) : ∀ l : List Nm, putM n (Value.bool true) (l.map fun n => (n, Value.bool true)) = (addN l n).map fun n => (n, Value.bool true)
  | [] => by simp [putM, addN]
  | a :: l => by
    have ih := putM_add n l
    unfold addN at ih ⊢
    simp only [List.map_cons, putM]
    by_cases h : a = n
    · subst h
      simp
    · rw [if_neg h, ih]
      by_cases hm : n ∈ l
      · simp [hm]
      · have : ¬ n = a := fun e => h e.symm
        simp [hm, this]
theorem BMap.put {w : World} {b : Nat} {l : List Nm} (h : BMap w b l) (n : Nm) : ∃ w', (Instr.mapUpdate 102 (.map (some b)) (nmV n) (.bool true)).run Try.prog w = .ok () w' ∧ BMap w' b (addN l n) ∧ w.grownBy w' (some b) := by
  obtain ⟨w', h1, h2, h3⟩ := map_put h n (.bool true) Try.underlying102
  rw [putM_add] at h2
  exact ⟨w', h1, h2, h3⟩
theorem SMapL.put {w : World} {b : Nat} {l : List (Nm × Bs)} (h : SMapL w b l) (n : Nm) (x : Bs) : ∃ w', (Instr.mapUpdate 54 (.map (some b)) (nmV n) (.string (bs x))).run Try.prog w = .ok () w' ∧ SMapL w' b (putM n x l) ∧ w.grownBy w' (some b) := by
  obtain ⟨w', h1, h2, h3⟩ := map_put h n (.string (bs x)) Try.underlying54
  rw [putM_map (fun x => Value.string (bs x)) n x l] at h2
  exact ⟨w', h1, h2, h3⟩
theorem putS_one (s : S47) (n : Nm) (x : Bs) {l : List (Nm × Bs)} (h : ∀ m, lookM m l = s m) (m : Nm) : lookM m (putM n x l) = if n = m then some x else s m := by
  rw [look_put, h]
theorem SMap.put {w : World} {b : Nat} {s : S47} (h : SMap w b s) (n : Nm) (x : Bs) : ∃ w', (Instr.mapUpdate 54 (.map (some b)) (nmV n) (.string (bs x))).run Try.prog w = .ok () w' ∧ SMap w' b (fun m => if n = m then some x else s m) ∧ w.grownBy w' (some b) := by
  obtain ⟨l, h1, h2⟩ := h
  obtain ⟨w', g1, g2, g3⟩ := h1.put n x
  exact ⟨w', g1, ⟨_, g2, putS_one s n x h2⟩, g3⟩
theorem zeroSt47 (w : World) : (zeroValue 9).run Try.prog w = .ok (.string ⟨#[]⟩) w := by kernel_rfl
theorem map_ok47 {w : World} {b : Nat} {ents : List (Nm × Value)} (h : MapAt w b ents) (n : Nm) {t E : TypeId} (ht : Try.prog.underlying t = some (.map 41 E)) {z : Value} (hz : (zeroValue E).run Try.prog w = .ok z w) :
    (Instr.lookup t (.map (some b)) (nmV n) true).run Try.prog w = .ok (.tuple #[(lookM n ents).getD z, .bool (lookM n ents).isSome]) w := by
  obtain ⟨es, c, hb, he, hs⟩ := h
  rw [← posM_look n ents 0]
  cases hp : posM n ents 0 with
  | none => simp [Instr.lookup, run_underlying ht, MapKept.run_getObj_map hb, chk_nm, key_nm n w he, hp, hz, Result.andThen]
  | some q => simp [Instr.lookup, run_underlying ht, MapKept.run_getObj_map hb, chk_nm, key_nm n w he, hp, hz, Result.andThen]
theorem lookSt (n : Nm) (l : List (Nm × Bs)) : (lookM n (l.map fun p => (p.1, Value.string (bs p.2)))).getD (.string ⟨#[]⟩) = .string (bs ((lookM n l).getD [])) ∧ (lookM n (l.map fun p => (p.1, Value.string (bs p.2)))).isSome = (lookM n l).isSome := by
  rw [lookM_map (fun x => Value.string (bs x)) n l]
  cases lookM n l <;> exact ⟨rfl, rfl⟩
theorem SMapL.look {w : World} {b : Nat} {l : List (Nm × Bs)} (h : SMapL w b l) (n : Nm) {x : Bs} (hx : (lookM n l).getD [] = x) : (Instr.lookup 54 (.map (some b)) (nmV n) false).run Try.prog w = .ok (.string (bs x)) w := by
  have := map_look h n Try.underlying54 (zeroSt47 w)
  rw [(lookSt n l).1, hx] at this
  exact this
theorem SMap.look {w : World} {b : Nat} {s : S47} (h : SMap w b s) (n : Nm) {x : Bs} (hx : (s n).getD [] = x) : (Instr.lookup 54 (.map (some b)) (nmV n) false).run Try.prog w = .ok (.string (bs x)) w := by
  obtain ⟨l, h1, h2⟩ := h
  exact h1.look n (by rw [h2, hx])
theorem SMap.ok {w : World} {b : Nat} {s : S47} (h : SMap w b s) (n : Nm) {x : Bs} {q : Bool} (hx : (s n).getD [] = x) (hq : (s n).isSome = q) : (Instr.lookup 54 (.map (some b)) (nmV n) true).run Try.prog w = .ok (.tuple #[.string (bs x), .bool q]) w := by
  obtain ⟨l, h1, h2⟩ := h
  have := map_ok47 h1 n Try.underlying54 (zeroSt47 w)
  rw [(lookSt n l).1, (lookSt n l).2, h2, hx, hq] at this
  exact this
def keyRel (ents : List (Nm × Value)) (b r : Nat) (w : World) (v : Value) (wr : World) : Prop := ∃ seen left, MapIt wr b r ents left ∧ (seen ++ left.map Prod.fst).Perm (ents.map Prod.fst) ∧ wr.ownsRow w.heap.size 41 5 v seen.length (seen.flatMap nmC) ∧ Below w.heap.size w wr
set_option maxRecDepth 100000 in
set_option maxHeartbeats 2000000 in
theorem keys_is {w : World} {b : Nat} {l : List Nm} (h : BMap w b l) (hl : l.length ≤ 12) : Calls Try.prog 46 #[.map (some b)] w fun e w' => ∃ v, ∃ l' : List Nm, e = .returned v ∧ l'.Perm l ∧ w'.ownsRow w.heap.size 41 5 v l'.length (l'.flatMap nmC) ∧ Below w.heap.size w w' := by
  obtain ⟨ents, he⟩ : ∃ ents, l.map (fun n => (n, Value.bool true)) = ents := ⟨_, rfl⟩
  have HE : Hid (ents.map Prod.fst = l) := Lib.hid (by rw [← he, List.map_map]; simp [Function.comp_def])
  have hel : ents.length ≤ 12 := by rw [← he, List.length_map]; exact hl
  unfold BMap at h
  rw [he] at h
  have HM := Lib.hid h
  obtain ⟨i0, hi, hz0, hz1, hz2⟩ := info_parts infoNm
  clear h he hl
  go_enter Try.func46, Try.ntmps46
  go_wp2_with (at_range; refine wpList_range_nm _ rfl _ _ rfl Try.underlying102 b ents rfl HM.out ?_; intro w7 hit7 hb7 hs7; have HIT7 := Lib.hid hit7; have HB7 := Lib.hid hb7; clear hit7 hb7 hs7)
  try go_frame
  obtain ⟨r, hr⟩ : ∃ r, w.heap.size = r := ⟨_, rfl⟩
  have HRG : Hid (w.heap.size ≤ r) := Lib.hid (by omega)
  have HR := Lib.hid hr
  rw [hr] at HIT7 ⊢
  have H0 : Hid (keyRel ents b r w (.slice none 0 0) w7) := Lib.hid ⟨[], ents, HIT7.out, List.Perm.refl _, World.ownsRow_nil _ _ _ _, HB7.out⟩
  clear hr
  go_loopw [3] (fun v wr => keyRel ents b r w v wr) (fun _ wr => wr.rangeLeft b r)
  case atStart => exact H0.out
  case round =>
    clear H0
    obtain ⟨seen, left, hit, hpm, hown, hbw⟩ := hrel
    have hsl : seen.length + left.length = ents.length := by
      have := hpm.length_eq
      simpa using this
    have HIT := Lib.hid hit
    have HPM := Lib.hid hpm
    have HBW := Lib.hid hbw
    have hLl : seen.length ≤ 12 := by omega
    have HO := Lib.hid hown
    obtain ⟨A3, c3, rfl, hc3⟩ := own_len hown
    clear hit hpm hown hbw
    go_wp2_with (at_next; refine wpList_next_nm _ rfl _ rfl b r ents left rfl HIT.out ?_ ?_)
    · intro hleft
      have HPE : Hid (seen.Perm l) := Lib.hid (by have := HPM.out; rw [hleft, HE.out] at this; simpa using this)
      clear hleft
      go_wp2_with fail
      go_ret
      exact ⟨_, seen, rfl, HPE.out, HO.out, HBW.out⟩
    · intro n v left' w8 hpm2 hpe hit8 hg8 hs8 hen8
      have HPM2 := Lib.hid hpm2
      have HIT8 := Lib.hid hit8
      have HS8 := Lib.hid hs8
      have ho8 := HO.out.kept hg8 (.inr (fun e1 => (own_not_it HO.out HIT.out).2 e1.symm))
      have HO8 := Lib.hid ho8
      have HB8 : Hid (Below w.heap.size w w8) := Lib.hid (HBW.out.trans ⟨hg8.os, hg8.tape, hg8.output, hg8.size, fun i hi => hg8.block i (Nat.lt_of_lt_of_le hi HBW.out.size) (fun e1 => by injection e1 with e1; have := HRG.out; omega)⟩)
      simp only [nmV, nmA] at hen8 ⊢
      have hb89 := (Below.refl w8.heap.size w8).alloc (Nat.le_refl _) (.cells #[.int .i64 n.kind, .string (bs n.owner), .int .i64 n.num, .int .i64 n.idx, .string (bs n.text)] 41)
      have HB89 := Lib.hid hb89
      clear hpm2 hpe hit8 hg8 hs8 hb89 ho8
      go_wp2_with (at_builtin; refine wpList_append_w _ rfl _ _ _ rfl w.heap.size 41 i0 _ 5 56 Try.underlying85 hi hz0 hz1 hz2 rfl (by omega) (.slice A3 seen.length c3) seen.length (seen.flatMap nmC) rfl (own_next (own_next HO8.out HB89.out) ((Below.refl _ _).alloc (Nat.le_refl _) _)) (.slice (some ⟨w8.heap.size + 1, 0, none⟩) 1 1) 1 [.int .i64 n.kind, .string (bs n.owner), .int .i64 n.num, .int .i64 n.idx, .string (bs n.text)] rfl (by have h := own_new (w8.alloc (.cells #[.int .i64 n.kind, .string (bs n.owner), .int .i64 n.num, .int .i64 n.idx, .string (bs n.text)] 41)) 0 41 5 [.int .i64 n.kind, .string (bs n.owner), .int .i64 n.num, .int .i64 n.idx, .string (bs n.text)] rfl (Nat.zero_le _); rw [World.size_alloc] at h; exact Rd.of_own h) (by omega) rfl (by simp [Value.oneCell']) (by unfold maxLen; omega) (by omega) (by have := HB8.out.size; simp; omega) ?_; intro v5 w10 hown5 hg5 hat5; have HO5 := Lib.hid hown5; have HG5 := Lib.hid hg5; clear hown5 hg5 hat5)
      clear hen8
      have HIT9 := Lib.hid (HIT8.out.next (HB89.out.alloc HB89.out.size (.cells #[.int .i64 n.kind, .string (bs n.owner), .int .i64 n.num, .int .i64 n.idx, .string (bs n.text)] 41)))
      have HO9 := Lib.hid (own_next (own_next HO8.out HB89.out) ((Below.refl _ _).alloc (Nat.le_refl _) (.cells #[.int .i64 n.kind, .string (bs n.owner), .int .i64 n.num, .int .i64 n.idx, .string (bs n.text)] 41)))
      have hne := own_not_it HO9.out HIT9.out
      have HIT10 := Lib.hid (HIT9.out.grown HG5.out hne.1 hne.2)
      have hb5 : Below w.heap.size w8 w10 := below_own ((HB89.out.alloc HB89.out.size (.cells #[.int .i64 n.kind, .string (bs n.owner), .int .i64 n.num, .int .i64 n.idx, .string (bs n.text)] 41)).mono HB8.out.size) HO9.out HG5.out (Nat.le_refl _) (by have := HB8.out.size; simp; omega)
      have HB5 := Lib.hid hb5
      clear hb5 hne
      go_wp2_with fail
      go_roundw
      case rel =>
        refine ⟨seen ++ [n], left', HIT10.out, ?_, ?_, HB8.out.trans HB5.out⟩
        · refine List.Perm.trans ?_ HPM.out
          have h1 : (left.map Prod.fst).Perm (n :: left'.map Prod.fst) := HPM2.out.map Prod.fst
          rw [List.append_assoc]
          exact (List.Perm.append_left seen h1).symm
        · rw [List.flatMap_append, List.length_append]
          exact HO5.out
      case measure =>
        show w10.rangeLeft b r < wr.rangeLeft b r
        rw [HIT10.out.size, HIT.out.size, HPM2.out.length_eq]
        simp
end Go.Proofs.Ytmjkcanjfjfkfaa
