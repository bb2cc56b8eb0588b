/- Walks of layer 46: names are valid. -/
import Derived.Test.YtamjllakfgphnaaGreatDoorGT
namespace Go.Proofs.YtamjllakfgphnaaGreatDoor
open Go.RowKit
set_option linter.unusedSimpArgs false
set_option linter.unusedVariables false
/-- What the table of usages says of a kind. -/
structure Use where
  word : Bs
  owner : Bool
  number : Bool
  index : Bool
  text : Bool
  most : Int
def useT (k : Nat) : Use :=
  match k with
  | 13 => ⟨[116, 101, 114, 109, 105, 110, 97, 108], false, true, false, false, 0⟩
  | 15 => ⟨[99, 108, 111, 99, 107], false, false, false, false, 0⟩
  | 16 => ⟨[112, 111, 114, 116], false, true, false, false, 0⟩
  | 17 => ⟨[98, 111, 120], false, false, false, true, 0⟩
  | _ => ⟨[101, 112, 111, 99, 104], false, false, false, false, 0⟩
/-- The table of usages, where the runs need it. -/
def UseAt (w : World) : Prop := 0 < w.heap.size ∧ ∀ k : Nat, k = 13 ∨ k = 15 ∨ k = 16 ∨ k = 17 ∨ k = 20 →
  w.cell? ⟨0, k * 6, none⟩ = some (.string (bs (useT k).word)) ∧ w.cell? ⟨0, k * 6 + 1, none⟩ = some (.bool (useT k).owner) ∧ w.cell? ⟨0, k * 6 + 2, none⟩ = some (.bool (useT k).number) ∧ w.cell? ⟨0, k * 6 + 3, none⟩ = some (.bool (useT k).index) ∧ w.cell? ⟨0, k * 6 + 4, none⟩ = some (.bool (useT k).text) ∧ w.cell? ⟨0, k * 6 + 5, none⟩ = some (.int .i64 (useT k).most)
theorem UseAt.next {w w' : World} (h : UseAt w) {B : Nat} (hb : Below B w w') (hB : 0 < B) : UseAt w' :=
  ⟨Nat.lt_of_lt_of_le h.1 hb.size, fun k hk => by
    have hc : ∀ o, w'.cell? ⟨0, o, none⟩ = w.cell? ⟨0, o, none⟩ := fun o => hb.cell (p := ⟨0, o, none⟩) hB
    simp only [hc]
    exact h.2 k hk⟩
theorem UseAt.below {w w' : World} (h : UseAt w) (hb : Below w.heap.size w w') : UseAt w' := h.next hb h.1
theorem kind_t (k : Int) (w : World) (h1 : 1 ≤ k) (h2 : k ≤ 20) : Calls Tryz.prog 121 #[.int .i64 k] w fun e w' => e = .returned (.bool true) ∧ w = w' := by
  have e1 : decide ((1 : Int) ≤ k) = true := by simpa using h1
  have e2 : decide (k ≤ (20 : Int)) = true := by simpa using h2
  go_enter Tryz.func121, Tryz.ntmps121
  go_wp2
  go_ret
  exact ⟨rfl, rfl⟩
theorem kind_f (w : World) : Calls Tryz.prog 121 #[.int .i64 99] w fun e w' => e = .returned (.bool false) ∧ w = w' := by
  go_enter Tryz.func121, Tryz.ntmps121
  go_wp2
  go_ret
  exact ⟨rfl, rfl⟩
theorem within_t (n m : Int) (w : World) (h1 : 0 ≤ n) (h2 : n ≤ m) : Calls Tryz.prog 29 #[.int .i64 n, .int .i64 m] w fun e w' => e = .returned (.bool true) ∧ w = w' := by
  have e1 : decide ((0 : Int) ≤ n) = true := by simpa using h1
  have e2 : decide (n ≤ m) = true := by simpa using h2
  go_enter Tryz.func29, Tryz.ntmps29
  go_wp2
  go_ret
  exact ⟨rfl, rfl⟩
theorem word_one (c : UInt8) (w : World) (hc : c = 97 ∨ c = 98) : Calls Tryz.prog 122 #[.string ⟨#[c]⟩] w fun e w' => e = .returned (.bool true) ∧ w = w' := by
  rcases hc with rfl | rfl
  all_goals
    go_enter Tryz.func122, Tryz.ntmps122
    go_wp2
    refine wp_loop_rounds 2 ?_
    rw [rounds_succ]
    go_wp2
    rw [rounds_succ]
    go_wp2
    go_ret
    exact ⟨rfl, rfl⟩
set_option maxRecDepth 100000 in
set_option maxHeartbeats 1000000 in
theorem check_ob (n : Nm) (w : World) (hn : IsOb n) (hu : UseAt w) : Calls Tryz.prog 76 #[nmV n] w fun e w' => e = .returned (.int .i64 0) ∧ Below w.heap.size w w' := by
  have h0 := hu.1
  have hz : w.heap.size ≠ 0 := by omega
  have hz2 : ¬ (0 = w.heap.size) := by omega
  have hz3 : 0 < w.heap.size := by omega
  unfold IsOb objs at hn
  simp only [List.mem_cons, List.not_mem_nil, or_false] at hn
  rcases hn with rfl | rfl | rfl | rfl | rfl | rfl
  · obtain ⟨u0, u1, u2, u3, u4, u5⟩ := hu.2 13 (by simp)
    simp only [useT, Nat.reduceMul, Nat.reduceAdd] at u0 u1 u2 u3 u4 u5
    simp only [nmV, nmA, obT, bs]
    clear hu h0
    go_enter Tryz.func76, Tryz.ntmps76
    go_wp2_with (first | (go_at_call 121; refine (kind_t _ _ (by decide) (by decide)).mono ?_; rintro e w' ⟨rfl, rfl⟩) | (go_at_call 29; refine (within_t _ _ _ (by decide) (by decide)).mono ?_; rintro e w' ⟨rfl, rfl⟩) | (go_at_call 122; refine (word_one _ _ (by decide)).mono ?_; rintro e w' ⟨rfl, rfl⟩))
    go_ret
    exact ⟨rfl, ((Below.refl _ _).alloc (Nat.le_refl _) _).alloc (by simp) _⟩
  · obtain ⟨u0, u1, u2, u3, u4, u5⟩ := hu.2 15 (by simp)
    simp only [useT, Nat.reduceMul, Nat.reduceAdd] at u0 u1 u2 u3 u4 u5
    simp only [nmV, nmA, obC, bs]
    clear hu h0
    go_enter Tryz.func76, Tryz.ntmps76
    go_wp2_with (first | (go_at_call 121; refine (kind_t _ _ (by decide) (by decide)).mono ?_; rintro e w' ⟨rfl, rfl⟩) | (go_at_call 29; refine (within_t _ _ _ (by decide) (by decide)).mono ?_; rintro e w' ⟨rfl, rfl⟩) | (go_at_call 122; refine (word_one _ _ (by decide)).mono ?_; rintro e w' ⟨rfl, rfl⟩))
    go_ret
    exact ⟨rfl, ((Below.refl _ _).alloc (Nat.le_refl _) _).alloc (by simp) _⟩
  · obtain ⟨u0, u1, u2, u3, u4, u5⟩ := hu.2 16 (by simp)
    simp only [useT, Nat.reduceMul, Nat.reduceAdd] at u0 u1 u2 u3 u4 u5
    simp only [nmV, nmA, obP, bs]
    clear hu h0
    go_enter Tryz.func76, Tryz.ntmps76
    go_wp2_with (first | (go_at_call 121; refine (kind_t _ _ (by decide) (by decide)).mono ?_; rintro e w' ⟨rfl, rfl⟩) | (go_at_call 29; refine (within_t _ _ _ (by decide) (by decide)).mono ?_; rintro e w' ⟨rfl, rfl⟩) | (go_at_call 122; refine (word_one _ _ (by decide)).mono ?_; rintro e w' ⟨rfl, rfl⟩))
    go_ret
    exact ⟨rfl, ((Below.refl _ _).alloc (Nat.le_refl _) _).alloc (by simp) _⟩
  · obtain ⟨u0, u1, u2, u3, u4, u5⟩ := hu.2 17 (by simp)
    simp only [useT, Nat.reduceMul, Nat.reduceAdd] at u0 u1 u2 u3 u4 u5
    simp only [nmV, nmA, obA, bs]
    clear hu h0
    go_enter Tryz.func76, Tryz.ntmps76
    go_wp2_with (first | (go_at_call 121; refine (kind_t _ _ (by decide) (by decide)).mono ?_; rintro e w' ⟨rfl, rfl⟩) | (go_at_call 29; refine (within_t _ _ _ (by decide) (by decide)).mono ?_; rintro e w' ⟨rfl, rfl⟩) | (go_at_call 122; refine (word_one _ _ (by decide)).mono ?_; rintro e w' ⟨rfl, rfl⟩))
    go_ret
    exact ⟨rfl, ((Below.refl _ _).alloc (Nat.le_refl _) _).alloc (by simp) _⟩
  · obtain ⟨u0, u1, u2, u3, u4, u5⟩ := hu.2 17 (by simp)
    simp only [useT, Nat.reduceMul, Nat.reduceAdd] at u0 u1 u2 u3 u4 u5
    simp only [nmV, nmA, obB, bs]
    clear hu h0
    go_enter Tryz.func76, Tryz.ntmps76
    go_wp2_with (first | (go_at_call 121; refine (kind_t _ _ (by decide) (by decide)).mono ?_; rintro e w' ⟨rfl, rfl⟩) | (go_at_call 29; refine (within_t _ _ _ (by decide) (by decide)).mono ?_; rintro e w' ⟨rfl, rfl⟩) | (go_at_call 122; refine (word_one _ _ (by decide)).mono ?_; rintro e w' ⟨rfl, rfl⟩))
    go_ret
    exact ⟨rfl, ((Below.refl _ _).alloc (Nat.le_refl _) _).alloc (by simp) _⟩
  · obtain ⟨u0, u1, u2, u3, u4, u5⟩ := hu.2 20 (by simp)
    simp only [useT, Nat.reduceMul, Nat.reduceAdd] at u0 u1 u2 u3 u4 u5
    simp only [nmV, nmA, obE, bs]
    clear hu h0
    go_enter Tryz.func76, Tryz.ntmps76
    go_wp2_with (first | (go_at_call 121; refine (kind_t _ _ (by decide) (by decide)).mono ?_; rintro e w' ⟨rfl, rfl⟩) | (go_at_call 29; refine (within_t _ _ _ (by decide) (by decide)).mono ?_; rintro e w' ⟨rfl, rfl⟩) | (go_at_call 122; refine (word_one _ _ (by decide)).mono ?_; rintro e w' ⟨rfl, rfl⟩))
    go_ret
    exact ⟨rfl, ((Below.refl _ _).alloc (Nat.le_refl _) _).alloc (by simp) _⟩
theorem check_bad (w : World) : Calls Tryz.prog 76 #[nmV ⟨99, [], 0, 0, []⟩] w fun e w' => e = .returned (.int .i64 11) ∧ Below w.heap.size w w' := by
  simp only [nmV, nmA, bs]
  go_enter Tryz.func76, Tryz.ntmps76
  go_wp2_with (go_at_call 121; refine (kind_f _).mono ?_; rintro e w' ⟨rfl, rfl⟩)
  go_ret
  exact ⟨rfl, (Below.refl _ _).alloc (Nat.le_refl _) _⟩
end Go.Proofs.YtamjllakfgphnaaGreatDoor
/- Words for memory: states. -/
namespace Go.Proofs.YtamjllakfgphnaaGreatDoor
open Go.RowKit
set_option linter.unusedSimpArgs false
set_option linter.unusedVariables false
/-- A state in memory. -/
def StAt (w : World) (p : Option Addr) (s : St) : Prop := ∃ B q t, p = some ⟨B, 0, none⟩ ∧ Blk w B 140 #[.pointer q] ∧ TrAt w q t ∧ Tr.flat t = s ∧ TSrt t
theorem StAt.keep {w w' : World} {L : List TypeId} {p : Option Addr} {s : St} (h : StAt w p s) (k : Kept L w w') (h1 : L.contains 140 = false) (h2 : L.contains 143 = false) : StAt w' p s := by
  obtain ⟨B, q, t, e, b, ht, hf, hs⟩ := h
  exact ⟨B, q, t, e, b.keep k h1, TrAt.keep k h2 ht, hf, hs⟩
theorem StAt.next {w w' : World} {p : Option Addr} {s : St} (h : StAt w p s) (hb : Below w.heap.size w w') : StAt w' p s := h.keep (Kept.of_below [] hb) rfl rfl
theorem StAt.drew {w : World} {p : Option Addr} {s : St} (h : StAt w p s) : StAt w.drew p s := h.keep (Kept.drew (Kept.refl [] w)) rfl rfl
theorem StAt.drewN {w : World} {p : Option Addr} {s : St} (h : StAt w p s) (n : Nat) : StAt (w.drewN n) p s := h.keep (Kept.drewN (Kept.refl [] w) n) rfl rfl
theorem StAt.srt {w : World} {p : Option Addr} {s : St} (h : StAt w p s) : Srt cmpN OwnE s := by
  obtain ⟨B, q, t, e, b, ht, hf, hs⟩ := h
  rw [← hf]; exact hs
def lenS (s : St) : Nat := (s.map fun p => p.2.length).sum
/-- Small enough. -/
def StSm (s : St) : Prop := s.length < 1000 ∧ lenS s ≤ 1000000000
theorem by_lenS (t : T46) : byT t = lenS t.flat := by
  have e := Tr.by_flat (κ := Nm) (List.length : Bs → Nat)
  unfold byT lenS
  rw [e]
theorem StSm.tr {t : T46} (h : StSm t.flat) : TrSm t := by
  obtain ⟨h1, h2⟩ := h
  rw [← by_lenS] at h2
  rw [← Tr.sz_flat] at h1
  exact ⟨by omega, by omega⟩
theorem StSm.wo {t : T46} (h : StSm t.flat) {v : Bs} (hv : v.length ≤ 100000) : WithOk t v := by
  obtain ⟨h1, h2⟩ := h
  rw [← by_lenS] at h2
  rw [← Tr.sz_flat] at h1
  exact ⟨by omega, by omega⟩
theorem quiet_left {P : Program} {f : FuncId} {args : Array Value} {w : World} {n : Nat} {v : Value}
    (h : Calls P f args (w.drewN n) fun e w' => e = .returned v ∧ w.drewN n = w') : Calls P f args (w.drewN n) fun e w'' => e = .returned v ∧ ∃ m, w'' = w.drewN m :=
  h.mono fun _ _ ⟨he, hm⟩ => ⟨he, n, hm.symm⟩
end Go.Proofs.YtamjllakfgphnaaGreatDoor
/- Words for memory: rows of elements without inner slices: names, changes, versions, numbers. -/
namespace Go.Proofs.YtamjllakfgphnaaGreatDoor
open Go.RowKit
set_option linter.unusedSimpArgs false
set_option linter.unusedVariables false
section
variable {α : Type} {f : α → List Value} {s : Nat}
theorem fm_len (hf : ∀ x, (f x).length = s) : ∀ l : List α, (l.flatMap f).length = l.length * s
  | [] => by simp
  | a :: l => by rw [List.flatMap_cons, List.length_append, hf, fm_len hf l, List.length_cons, Nat.add_mul]; omega
theorem fm_get (hf : ∀ x, (f x).length = s) : ∀ (l : List α) (k : Nat) (hk : k < l.length) (j : Nat), j < s → (l.flatMap f)[k * s + j]? = (f l[k])[j]?
  | [], k, hk, _, _ => by simp at hk
  | a :: l, 0, hk, j, hj => by
    rw [List.flatMap_cons, Nat.zero_mul, Nat.zero_add, List.getElem?_append_left (by rw [hf]; exact hj)]
    rfl
  | a :: l, k + 1, hk, j, hj => by
    have := fm_get hf l k (by simpa using hk) j hj
    rw [List.flatMap_cons, List.getElem?_append_right (by rw [hf, Nat.add_mul]; omega), hf, show (k + 1) * s + j - s = k * s + j by rw [Nat.add_mul]; omega, this]
    simp
theorem fm_take (f : α → List Value) (l : List α) (k : Nat) (hk : k < l.length) : (l.take (k + 1)).flatMap f = (l.take k).flatMap f ++ f l[k] := by
  rw [List.take_succ_eq_append_getElem hk, List.flatMap_append]; simp
/-- A slice of elements without inner slices. -/
def RdP (e : TypeId) (f : α → List Value) (w : World) (v : Value) (l : List α) : Prop := Rd e w v l.length (l.flatMap f)
variable {e : TypeId} {w w' : World} {v : Value} {l : List α}
theorem RdP.keep {L : List TypeId} (h : RdP e f w v l) (k : Kept L w w') (he : L.contains e = false) : RdP e f w' v l := Rd.keep h k he
theorem RdP.next (h : RdP e f w v l) (hb : Below w.heap.size w w') : RdP e f w' v l := Rd.next h hb
theorem RdP.drew (h : RdP e f w v l) : RdP e f w.drew v l := h
theorem RdP.drewN (h : RdP e f w v l) (n : Nat) : RdP e f (w.drewN n) v l := h
theorem RdP.form (h : RdP e f w v l) : ∃ A c, v = .slice A l.length c ∧ l.length ≤ c := Rd.form h
theorem RdP.nil : RdP e f w (.slice none 0 0) [] := ⟨none, 0, rfl, Nat.le_refl _, Nat.zero_le _, .inl ⟨rfl, rfl⟩⟩
theorem RdP.at_ {A : Option Addr} {n c : Nat} (h : RdP e f w (.slice A n c) l) (hf : ∀ x, (f x).length = s) {k : Nat} (hk : k < l.length) : ∃ b o, A = some ⟨b, o, none⟩ ∧ b < w.heap.size ∧ ∀ j y, (f l[k])[j]? = some y → w.cell? ⟨b, o + (k * s + j), none⟩ = some y := by
  obtain ⟨b, o, c', hv, hc, _, hb, hcell⟩ := Rd.at_ h (by omega)
  injection hv with hA _ _
  refine ⟨b, o, hA, hb, fun j y hy => ?_⟩
  have hj : j < s := by
    rcases Nat.lt_or_ge j s with h | h
    · exact h
    · rw [List.getElem?_eq_none (by rw [hf]; exact h)] at hy; cases hy
  exact hcell _ _ ((fm_get hf l k hk j hj).trans hy)
/-- A row of the call's own. -/
def OwnP (e : TypeId) (s : Nat) (f : α → List Value) (w : World) (base : Nat) (v : Value) (l : List α) : Prop := w.ownsRow base e s v l.length (l.flatMap f)
variable {base : Nat}
theorem OwnP.rd (h : OwnP e s f w base v l) : RdP e f w v l := Rd.of_own h
theorem OwnP.next (h : OwnP e s f w base v l) (hb : Below w.heap.size w w') : OwnP e s f w' base v l := own_next h hb
theorem OwnP.nil : OwnP e s f w base (.slice none 0 0) [] := World.ownsRow_nil _ _ _ _
theorem OwnP.snoc {x : α} (h : w.ownsRow base e s v (l.length + 1) (l.flatMap f ++ f x)) : OwnP e s f w base v (l ++ [x]) := by
  unfold OwnP
  rw [List.length_append, List.flatMap_append]
  simpa using h
theorem OwnP.take_ {k : Nat} (hk : k < l.length) (h : w.ownsRow base e s v (k + 1) ((l.take k).flatMap f ++ f l[k])) : OwnP e s f w base v (l.take (k + 1)) := by
  unfold OwnP
  rw [fm_take f l k hk, List.length_take, Nat.min_eq_left hk]
  exact h
end
theorem chC_len (c : Ch) : (chC c).length = 7 := rfl
theorem nmC_len (c : Nm) : (nmC c).length = 5 := rfl
theorem veC_len (c : Ver) : (veC c).length = 3 := rfl
abbrev RdCh (w : World) (v : Value) (l : List Ch) : Prop := RdP 105 chC w v l
abbrev RdNm (w : World) (v : Value) (l : List Nm) : Prop := RdP 26 nmC w v l
abbrev RdVe (w : World) (v : Value) (l : List Ver) : Prop := RdP 68 veC w v l
theorem RdCh.piece {w : World} {A : Option Addr} {n c : Nat} {l : List Ch} (h : RdCh w (.slice A n c) l) {k : Nat} (hk : k < l.length) : ∃ b o, A = some ⟨b, o, none⟩ ∧ b < w.heap.size ∧
    w.cell? ⟨b, o + k * 7, none⟩ = some (.int .i64 l[k].name.kind) ∧ w.cell? ⟨b, o + k * 7 + 1, none⟩ = some (.string (bs l[k].name.owner)) ∧ w.cell? ⟨b, o + k * 7 + 2, none⟩ = some (.int .i64 l[k].name.num) ∧ w.cell? ⟨b, o + k * 7 + 3, none⟩ = some (.int .i64 l[k].name.idx) ∧ w.cell? ⟨b, o + k * 7 + 4, none⟩ = some (.string (bs l[k].name.text)) ∧ w.cell? ⟨b, o + k * 7 + 5, none⟩ = some (.string (bs l[k].value)) ∧ w.cell? ⟨b, o + k * 7 + 6, none⟩ = some (.bool l[k].absent) := by
  obtain ⟨b, o, e, hb, hc⟩ := RdP.at_ h chC_len hk
  exact ⟨b, o, e, hb, hc 0 _ rfl, hc 1 _ rfl, hc 2 _ rfl, hc 3 _ rfl, hc 4 _ rfl, hc 5 _ rfl, hc 6 _ rfl⟩
theorem RdNm.piece {w : World} {A : Option Addr} {n c : Nat} {l : List Nm} (h : RdNm w (.slice A n c) l) {k : Nat} (hk : k < l.length) : ∃ b o, A = some ⟨b, o, none⟩ ∧ b < w.heap.size ∧
    w.cell? ⟨b, o + k * 5, none⟩ = some (.int .i64 l[k].kind) ∧ w.cell? ⟨b, o + k * 5 + 1, none⟩ = some (.string (bs l[k].owner)) ∧ w.cell? ⟨b, o + k * 5 + 2, none⟩ = some (.int .i64 l[k].num) ∧ w.cell? ⟨b, o + k * 5 + 3, none⟩ = some (.int .i64 l[k].idx) ∧ w.cell? ⟨b, o + k * 5 + 4, none⟩ = some (.string (bs l[k].text)) := by
  obtain ⟨b, o, e, hb, hc⟩ := RdP.at_ h nmC_len hk
  exact ⟨b, o, e, hb, hc 0 _ rfl, hc 1 _ rfl, hc 2 _ rfl, hc 3 _ rfl, hc 4 _ rfl⟩
theorem RdVe.piece {w : World} {A : Option Addr} {n c : Nat} {l : List Ver} (h : RdVe w (.slice A n c) l) {k : Nat} (hk : k < l.length) : ∃ b o, A = some ⟨b, o, none⟩ ∧ b < w.heap.size ∧
    w.cell? ⟨b, o + k * 3, none⟩ = some (.int .i64 l[k].idx) ∧ w.cell? ⟨b, o + k * 3 + 1, none⟩ = some (.string (bs l[k].value)) ∧ w.cell? ⟨b, o + k * 3 + 2, none⟩ = some (.bool l[k].absent) := by
  obtain ⟨b, o, e, hb, hc⟩ := RdP.at_ h veC_len hk
  exact ⟨b, o, e, hb, hc 0 _ rfl, hc 1 _ rfl, hc 2 _ rfl⟩
/-- A state whose values are short. -/
def StV (s : St) : Prop := StOk s ∧ ∀ p ∈ s, p.2.length ≤ 65536
def ChV (c : Ch) : Prop := IsOb c.name ∧ c.value.length ≤ 65536
theorem StV.sm {s : St} (h : StV s) : StSm s := by
  have h6 := st_six h.1
  refine ⟨by omega, ?_⟩
  have : ∀ s : St, (∀ p ∈ s, p.2.length ≤ 65536) → lenS s ≤ s.length * 65536 := by
    intro s
    induction s with
    | nil => intro _; simp [lenS]
    | cons p s ih =>
      intro h
      have h1 := h p (by simp)
      have h2 := ih fun q hq => h q (by simp [hq])
      unfold lenS at *
      rw [List.map_cons, List.sum_cons, List.length_cons]
      omega
  have := this s h.2
  omega
theorem StV.app1 {s : St} {c : Ch} (h : StV s) (hc : ChV c) : StV (app1 s c) := by
  refine ⟨app1_ok h.1 hc.1, fun p hp => ?_⟩
  unfold Proofs.YtamjllakfgphnaaGreatDoor.app1 at hp
  split at hp
  · exact h.2 p (mem_del _ hp)
  · rcases mem_ins _ hp with rfl | hp
    · exact hc.2
    · exact h.2 p hp
theorem StV.appS : ∀ {l : List Ch} {s : St}, StV s → (∀ c ∈ l, ChV c) → StV (appS s l)
  | [], s, h, _ => h
  | c :: l, s, h, hl => StV.appS (l := l) (StV.app1 h (hl c (by simp))) fun d hd => hl d (by simp [hd])
theorem appS_take (s : St) (l : List Ch) (k : Nat) (hk : k < l.length) : appS s (l.take (k + 1)) = app1 (appS s (l.take k)) l[k] := by
  unfold appS
  rw [List.take_succ_eq_append_getElem hk, List.foldl_append]; rfl
end Go.Proofs.YtamjllakfgphnaaGreatDoor
/- Walks of layer 46: New, Len, Get. -/
namespace Go.Proofs.YtamjllakfgphnaaGreatDoor
open Go.RowKit
set_option linter.unusedSimpArgs false
set_option linter.unusedVariables false
def NewP (s : St) (w : World) (e : Ending) (w' : World) : Prop := ∃ p, e = .returned (.pointer p) ∧ StAt w' p s ∧ Below w.heap.size w w'
theorem new_is (w : World) : Calls Tryz.prog 34 #[] w (NewP [] w) := by
  go_enter Tryz.func34, Tryz.ntmps34
  go_wp2
  go_ret
  exact ⟨_, rfl, ⟨w.heap.size, none, .nil, rfl, Blk.new w _ _, rfl, rfl, List.Pairwise.nil, by simp [Tr.flat]⟩, (Below.refl _ _).alloc (Nat.le_refl _) _⟩
theorem len_is {w : World} {p : Option Addr} {s : St} (h : StAt w p s) : Calls Tryz.prog 77 #[.pointer p] w fun e w' => e = .returned (.int .i64 (s.length : Int)) ∧ w = w' := by
  obtain ⟨B, q, t, rfl, b, ht, hf, hs⟩ := h
  have c0 : w.cell? ⟨B, 0, none⟩ = some (.pointer q) := b.cell 0
  have HS := Lib.hid (size_is ht)
  have e : t.sz = s.length := by rw [← hf, Tr.sz_flat]
  rw [e] at HS
  clear b ht hf hs e
  go_enter Tryz.func77, Tryz.ntmps77
  go_wp2_with fail
  refine HS.out.mono ?_
  rintro e w' ⟨rfl, rfl⟩
  go_wp2
  go_ret
  exact ⟨rfl, rfl⟩
def GetP (s : St) (n : Nm) (w : World) (e : Ending) (w' : World) : Prop := e = .returned (.tuple #[.string (bs ((look cmpN n s).getD [])), .bool (look cmpN n s).isSome]) ∧ Below w.heap.size w w'
set_option maxRecDepth 100000 in
theorem get_is {w : World} {p : Option Addr} {s : St} {n : Nm} (h : StAt w p s) (hn : OwnE n) : Calls Tryz.prog 22 #[.pointer p, nmV n] w (GetP s n w) := by
  obtain ⟨B, q, t, rfl, b, ht, hf, hs⟩ := h
  have hb1 : Below w.heap.size w (w.alloc (.cells (nmA n) 26)) := (Below.refl _ _).alloc (Nat.le_refl _) _
  have b1 := b.next hb1 b.lt
  have c0 : (w.alloc (.cells (nmA n) 26)).cell? ⟨B, 0, none⟩ = some (.pointer q) := b1.cell 0
  have HB := Lib.hid hb1
  have hk := Blk.new w 26 (nmA n)
  have k0 := hk.cell 0
  have k1 := hk.cell 1
  have k2 := hk.cell 2
  have k3 := hk.cell 3
  have k4 := hk.cell 4
  have HF := Lib.hid (find_is n t _ q (TrAt.drew (TrAt.next hb1 ht)) (hs.same hn))
  have HL : Hid (t.find cmpN n = look cmpN n s) := Lib.hid (by rw [find_look ordN hn t hs, hf])
  clear b b1 ht hf hs hb1 hk
  unfold nmV
  unfold nmA at *
  simp only [List.getElem?_toArray, List.getElem?_cons_zero, List.getElem?_cons_succ] at k0 k1 k2 k3 k4
  go_enter Tryz.func22, Tryz.ntmps22
  go_wp2_with fail
  generalize (w.alloc (.cells #[.int .i64 n.kind, .string (bs n.owner), .int .i64 n.num, .int .i64 n.idx, .string (bs n.text)] 26)) = W at *
  generalize hB : w.heap.size = B0 at *
  refine wp_region_still_tail 5 (by kernel_rfl) (by kernel_rfl) ?_
  simp only [List.take_succ_cons, List.take_zero, List.drop_succ_cons, List.drop_zero]
  iterate 5 still_step
  refine wpStill_nil ?_
  show wpList _ _ _ _ _ W.drew
  clear k0 k1 k2 k3 k4 c0
  go_wp2_with fail
  refine HF.out.mono ?_
  rintro e w2 ⟨hb, hm⟩
  rw [HL.out] at hm
  have HB2 := Lib.hid (HB.out.trans ((((Below.refl W.heap.size W).drew.trans hb)).mono (by have := HB.out.size; omega)))
  obtain ⟨z, hz⟩ : ∃ z, look cmpN n s = z := ⟨_, rfl⟩
  rw [hz] at hm
  have HZ := Lib.hid hz
  cases z with
  | none =>
    obtain rfl := hm
    clear hb HF HL HB hz
    go_wp2
    go_ret2
    exact ⟨by rw [HZ.out]; rfl, by rw [hB]; exact HB2.out⟩
  | some v =>
    obtain ⟨bn, pl, pr, hh, s', y, rfl, hn⟩ := hm
    have c7 : w2.cell? ⟨bn, 7, none⟩ = some (.string (bs v)) := hn.cell 7
    clear hb HF HL HB hz hn
    go_wp2
    go_ret2
    exact ⟨by rw [HZ.out]; rfl, by rw [hB]; exact HB2.out⟩
end Go.Proofs.YtamjllakfgphnaaGreatDoor
/- Walks of layer 46: With, Without. -/
namespace Go.Proofs.YtamjllakfgphnaaGreatDoor
open Go.RowKit
set_option linter.unusedSimpArgs false
set_option linter.unusedVariables false
attribute [local go_sem ↓] Go.wp_at_zero Go.wp_at_succ
/-- A state and no error. -/
def StP (s : St) (w : World) (e : Ending) (w' : World) : Prop := ∃ q, e = .returned (.tuple #[.pointer q, .int .i64 0]) ∧ StAt w' q s ∧ Below w.heap.size w w'
set_option maxRecDepth 100000 in
set_option maxHeartbeats 1000000 in
theorem with_st {w : World} {p : Option Addr} {s : St} {n : Nm} {v : Bs} (h : StAt w p s) (hn : IsOb n) (hu : UseAt w) (hv : v.length ≤ 65536) (hs : StSm s) : Calls Tryz.prog 35 #[.pointer p, nmV n, .string (bs v)] w (StP (ins cmpN n v s) w) := by
  obtain ⟨B, q, t, rfl, b, ht, hf, hst⟩ := h
  subst hf
  have hb1 : Below w.heap.size w (w.alloc (.cells (nmA n) 26)) := (Below.refl _ _).alloc (Nat.le_refl _) _
  have HK1 := Lib.hid (Blk.new w 26 (nmA n))
  have HU := Lib.hid (check_ob n _ hn (hu.below hb1))
  have HS1 : Hid (StAt (w.alloc (.cells (nmA n) 26)) (some ⟨B, 0, none⟩) t.flat) := Lib.hid ⟨B, q, t, rfl, b.next hb1 b.lt, TrAt.next hb1 ht, rfl, hst⟩
  have HB1 := Lib.hid hb1
  have HT := Lib.hid (TrAt.next hb1 ht)
  have HBk := Lib.hid (b.next hb1 b.lt)
  have hl : t.flat.length < 1000 := hs.1
  have hvs : (bs v).size ≤ 65536 := by rw [bs_size]; exact hv
  have e1 : decide ((65536 : Int) ≤ (t.flat.length : Int)) = false := by rw [decide_eq_false_iff_not]; omega
  have HW := Lib.hid (hs.wo (v := v) (by omega))
  have HO := Lib.hid (hst.same hn.own)
  have HST := Lib.hid hst
  have HN := Lib.hid hn
  have k0 := HK1.out.cell 0
  have k1 := HK1.out.cell 1
  have k2 := HK1.out.cell 2
  have k3 := HK1.out.cell 3
  have k4 := HK1.out.cell 4
  unfold nmV
  unfold nmA at *
  simp only [List.getElem?_toArray, List.getElem?_cons_zero, List.getElem?_cons_succ] at k0 k1 k2 k3 k4
  clear b ht hb1 hs hst hn hu hv
  go_enter Tryz.func35, Tryz.ntmps35
  go_wp2_with fail
  generalize (w.alloc (.cells #[.int .i64 n.kind, .string (bs n.owner), .int .i64 n.num, .int .i64 n.idx, .string (bs n.text)] 26)) = W at *
  generalize hB : w.heap.size = B0 at *
  have hbW : B0 ≤ W.heap.size := by have := HB1.out.size; omega
  have HBB := Lib.hid hB
  clear hB
  refine HU.out.mono ?_
  rintro e w2 ⟨rfl, hb⟩
  have HB2 := Lib.hid (HB1.out.trans (hb.mono hbW))
  have hbW2 : B0 ≤ w2.heap.size := Nat.le_trans hbW hb.size
  have HT2 := Lib.hid (TrAt.next hb HT.out)
  have HS2 := Lib.hid (HS1.out.next hb)
  have HK2 := Lib.hid (HK1.out.next hb HK1.out.lt)
  have HBk2 := Lib.hid (HBk.out.next hb HBk.out.lt)
  clear hb HU HS1 HB1 HT HK1 HBk k0 k1 k2 k3 k4
  go_wp2_with fail
  go_quiet ((go_at_call 77; exact quiet_left (len_is (HS2.out.drewN _))))
  have HB3 := Lib.hid (below_drewN HB2.out nq)
  have HT3 := Lib.hid (HT2.out.drewN nq)
  have HK3 := Lib.hid (HK2.out.drewN nq)
  have HBk3 := Lib.hid (HBk2.out.drewN nq)
  clear HB2 HT2 HK2 HS2 HBk2
  have hbW3 : B0 ≤ (World.drewN w2 nq).heap.size := hbW2
  generalize World.drewN w2 nq = w3 at *
  have c0 : w3.cell? ⟨B, 0, none⟩ = some (.pointer q) := HBk3.out.cell 0
  have k0 := HK3.out.cell 0
  have k1 := HK3.out.cell 1
  have k2 := HK3.out.cell 2
  have k3 := HK3.out.cell 3
  have k4 := HK3.out.cell 4
  simp only [List.getElem?_toArray, List.getElem?_cons_zero, List.getElem?_cons_succ] at k0 k1 k2 k3 k4
  go_wp2_with fail
  have HB4 := Lib.hid ((Below.refl w3.heap.size w3).drew.alloc (Nat.le_refl _) (.cells (ndA none none n v 0 0 0) 143))
  refine wp_region_noPanic ?_
  refine wp_region_held_drew (S := (fun w' => w'.cell? ⟨B, 0, none⟩ = some (.pointer q) ∧ w'.cell? ⟨B0, 0, none⟩ = some (.int .i64 n.kind) ∧ w'.cell? ⟨B0, 1, none⟩ = some (.string (bs n.owner)) ∧ w'.cell? ⟨B0, 2, none⟩ = some (.int .i64 n.num) ∧ w'.cell? ⟨B0, 3, none⟩ = some (.int .i64 n.idx) ∧ w'.cell? ⟨B0, 4, none⟩ = some (.string (bs n.text)))) (by kernel_rfl) ?_ (fun hHeld => ?_)
  · exact ⟨c0, k0, k1, k2, k3, k4⟩
  refine wpAnyH_take (i := 0) (v := ?_) rfl (by kernel_rfl) (by kernel_rfl) (by kernel_rfl) (fun _ _ _ h => h) (Or.inl ⟨by kernel_rfl, ?_⟩) hHeld ?_
  rotate_left
  · (intro w hSw; (try dsimp only at hSw); go_simp; try with_reducible rfl)
  try simp only [Act.put, List.setIfInBounds_toArray, List.set_cons_zero, List.set_cons_succ]
  refine wpAnyH_take (i := 1) (v := ?_) rfl (by kernel_rfl) (by kernel_rfl) (by kernel_rfl) (fun _ _ _ h => h) (Or.inl ⟨by kernel_rfl, ?_⟩) hHeld ?_
  rotate_left
  · (intro w hSw; (try dsimp only at hSw); go_simp; try with_reducible rfl)
  try simp only [Act.put, List.setIfInBounds_toArray, List.set_cons_zero, List.set_cons_succ]
  refine wpAnyH_take (i := 2) (v := ?_) rfl (by kernel_rfl) (by kernel_rfl) (by kernel_rfl) (fun _ _ _ h => h) (Or.inl ⟨by kernel_rfl, ?_⟩) hHeld ?_
  rotate_left
  · (intro w hSw; (try dsimp only at hSw); go_simp; try with_reducible rfl)
  try simp only [Act.put, List.setIfInBounds_toArray, List.set_cons_zero, List.set_cons_succ]
  refine wpAnyH_take (i := 3) (v := ?_) rfl (by kernel_rfl) (by kernel_rfl) (by kernel_rfl) (fun _ _ _ h => h) (Or.inl ⟨by kernel_rfl, ?_⟩) hHeld ?_
  rotate_left
  · (intro w hSw; (try dsimp only at hSw); go_simp; try with_reducible rfl)
  try simp only [Act.put, List.setIfInBounds_toArray, List.set_cons_zero, List.set_cons_succ]
  refine wpAnyH_take (i := 4) (v := ?_) rfl (by kernel_rfl) (by kernel_rfl) (by kernel_rfl) (fun _ _ _ h => h) (Or.inl ⟨by kernel_rfl, ?_⟩) hHeld ?_
  rotate_left
  · (intro w hSw; (try dsimp only at hSw); go_simp; try with_reducible rfl)
  try simp only [Act.put, List.setIfInBounds_toArray, List.set_cons_zero, List.set_cons_succ]
  refine wpAnyH_take (i := 5) (v := ?_) rfl (by kernel_rfl) (by kernel_rfl) (by kernel_rfl) (fun _ _ _ h => h) (Or.inl ⟨by kernel_rfl, ?_⟩) hHeld ?_
  rotate_left
  · (intro w hSw; (try dsimp only at hSw); go_simp; try with_reducible rfl)
  try simp only [Act.put, List.setIfInBounds_toArray, List.set_cons_zero, List.set_cons_succ]
  refine wpAnyH_take (i := 6) (v := ?_) rfl (by kernel_rfl) (by kernel_rfl) (by kernel_rfl) (fun _ _ _ h => h) (Or.inl ⟨by kernel_rfl, ?_⟩) hHeld ?_
  rotate_left
  · (intro w hSw; (try dsimp only at hSw); go_simp; try with_reducible rfl)
  try simp only [Act.put, List.setIfInBounds_toArray, List.set_cons_zero, List.set_cons_succ]
  refine wpAnyH_ready (rs := [7]) (by kernel_rfl) (by simp) ?_
  refine AllReadyH.cons rfl (fun K hK => ?_) AllReadyH.nil
  go_simp
  refine hK.out _ _ ?_ (fun hNew => ?_)
  · exact ⟨(HBk3.out.drew.alloc _).cell 0, (HK3.out.drew.alloc _).cell 0, (HK3.out.drew.alloc _).cell 1, (HK3.out.drew.alloc _).cell 2, (HK3.out.drew.alloc _).cell 3, (HK3.out.drew.alloc _).cell 4⟩
  clear hK K hHeld
  have hHeld := hNew
  clear hNew
  try simp only [Act.put, List.setIfInBounds_toArray, List.set_cons_zero, List.set_cons_succ]
  refine wpAnyH_ready (rs := [8]) (by kernel_rfl) (by simp) ?_
  refine AllReadyH.cons rfl (fun K hK => ?_) AllReadyH.nil
  go_simp
  refine ((with_is n v t) (TrAt.next HB4.out HT3.out) (show NdAt _ w3.heap.size none none n v 0 0 0 from Blk.new w3.drew 143 _) HW.out HO.out).mono ?_; rintro e w5 ⟨b5, rfl, ht5, hb5⟩; have HB5 := Lib.hid ((HB3.out.trans (HB4.out.mono hbW3)).trans (hb5.mono (Nat.le_trans hbW3 HB4.out.size))); have HT5 := Lib.hid ht5; have HBk5 := Lib.hid ((HBk3.out.drew.alloc (.cells (ndA none none n v 0 0 0) 143)).next hb5 (Blk.lt (HBk3.out.drew.alloc (.cells (ndA none none n v 0 0 0) 143)))); have HK5 := Lib.hid ((HK3.out.drew.alloc (.cells (ndA none none n v 0 0 0) 143)).next hb5 (Blk.lt (HK3.out.drew.alloc (.cells (ndA none none n v 0 0 0) 143)))); clear hb5 ht5
  try (go_wp2_with fail)
  refine hK.out _ _ ?_ (fun hNew => ?_)
  · exact ⟨HBk5.out.cell 0, HK5.out.cell 0, HK5.out.cell 1, HK5.out.cell 2, HK5.out.cell 3, HK5.out.cell 4⟩
  clear hK K hHeld
  have hHeld := hNew
  clear hNew
  try simp only [Act.put, List.setIfInBounds_toArray, List.set_cons_zero, List.set_cons_succ]
  refine wpAnyH_take (i := 9) (v := ?_) rfl (by kernel_rfl) (by kernel_rfl) (by kernel_rfl) (fun _ _ _ h => h) (Or.inl ⟨by kernel_rfl, ?_⟩) hHeld ?_
  rotate_left
  · (intro w hSw; (try dsimp only at hSw); go_simp; try with_reducible rfl)
  try simp only [Act.put, List.setIfInBounds_toArray, List.set_cons_zero, List.set_cons_succ]
  refine wpAnyH_ready (rs := [10]) (by kernel_rfl) (by simp) ?_
  refine AllReadyH.cons rfl (fun K hK => ?_) AllReadyH.nil
  go_simp
  refine hK.out _ _ ?_ (fun hNew => ?_)
  · exact ⟨(HBk5.out.alloc _).cell 0, (HK5.out.alloc _).cell 0, (HK5.out.alloc _).cell 1, (HK5.out.alloc _).cell 2, (HK5.out.alloc _).cell 3, (HK5.out.alloc _).cell 4⟩
  clear hK K hHeld
  have hHeld := hNew
  clear hNew
  try simp only [Act.put, List.setIfInBounds_toArray, List.set_cons_zero, List.set_cons_succ]
  refine wpAnyH_take (i := 11) (v := ?_) rfl (by kernel_rfl) (by kernel_rfl) (by kernel_rfl) (fun _ _ _ h => h) (Or.inl ⟨by kernel_rfl, ?_⟩) hHeld ?_
  rotate_left
  · (intro w hSw; (try dsimp only at hSw); go_simp; try with_reducible rfl)
  try simp only [Act.put, List.setIfInBounds_toArray, List.set_cons_zero, List.set_cons_succ]
  refine wpAnyH_take (i := 12) (v := ?_) rfl (by kernel_rfl) (by kernel_rfl) (by kernel_rfl) (fun _ _ _ h => h) (Or.inl ⟨by kernel_rfl, ?_⟩) hHeld ?_
  rotate_left
  · (intro w hSw; (try dsimp only at hSw); go_simp; try with_reducible rfl)
  try simp only [Act.put, List.setIfInBounds_toArray, List.set_cons_zero, List.set_cons_succ]
  refine wpAnyH_done (by kernel_rfl) ?_ _
  clear hHeld
  simp only [List.getElem_toArray, List.getElem_cons_zero, List.getElem_cons_succ, Act.put, List.setIfInBounds_toArray, List.set_cons_zero, List.set_cons_succ]
  refine NoPanic.normal ?_
  go_wp2
  go_ret2
  rw [← HBB.out] at HB5
  refine ⟨_, rfl, ⟨w5.heap.size, _, _, rfl, Blk.new w5 _ _, TrAt.next ((Below.refl _ _).alloc (Nat.le_refl _) _) HT5.out, flat_with ordN HN.out.own v t HST.out, ?_⟩, HB5.out.alloc HB5.out.size _⟩
  show Srt cmpN OwnE _
  rw [flat_with ordN HN.out.own v t HST.out]
  exact srt_ins ordN HN.out.own v _ HST.out
end Go.Proofs.YtamjllakfgphnaaGreatDoor
/- Walks of layer 46: Without. -/
namespace Go.Proofs.YtamjllakfgphnaaGreatDoor
open Go.RowKit
set_option linter.unusedSimpArgs false
set_option linter.unusedVariables false
theorem del_none {n : Nm} : ∀ {s : St}, look cmpN n s = none → del cmpN n s = s
  | [], _ => rfl
  | p :: s, h => by
    simp only [look] at h
    split at h
    · cases h
    · rename_i hne
      simp only [del]
      rw [if_neg hne, del_none h]
set_option maxRecDepth 100000 in
set_option maxHeartbeats 1000000 in
theorem without_st {w : World} {p : Option Addr} {s : St} {n : Nm} (h : StAt w p s) (hn : IsOb n) (hu : UseAt w) (hs : StSm s) : Calls Tryz.prog 53 #[.pointer p, nmV n] w (StP (del cmpN n s) w) := by
  obtain ⟨B, q, t, rfl, b, ht, hf, hst⟩ := h
  subst hf
  have hb1 : Below w.heap.size w (w.alloc (.cells (nmA n) 26)) := (Below.refl _ _).alloc (Nat.le_refl _) _
  have HK1 := Lib.hid (Blk.new w 26 (nmA n))
  have HU := Lib.hid (check_ob n _ hn (hu.below hb1))
  have HB1 := Lib.hid hb1
  have HT := Lib.hid (TrAt.next hb1 ht)
  have HBk := Lib.hid (b.next hb1 b.lt)
  have HO := Lib.hid (hst.same hn.own)
  have HST := Lib.hid hst
  have HSM := Lib.hid hs
  have HN := Lib.hid hn
  have k0 := HK1.out.cell 0
  have k1 := HK1.out.cell 1
  have k2 := HK1.out.cell 2
  have k3 := HK1.out.cell 3
  have k4 := HK1.out.cell 4
  unfold nmV
  unfold nmA at *
  simp only [List.getElem?_toArray, List.getElem?_cons_zero, List.getElem?_cons_succ] at k0 k1 k2 k3 k4
  clear b ht hb1 hs hst hn hu
  go_enter Tryz.func53, Tryz.ntmps53
  go_wp2_with fail
  generalize (w.alloc (.cells #[.int .i64 n.kind, .string (bs n.owner), .int .i64 n.num, .int .i64 n.idx, .string (bs n.text)] 26)) = W at *
  generalize hB : w.heap.size = B0 at *
  have hbW : B0 ≤ W.heap.size := by have := HB1.out.size; omega
  have HBB := Lib.hid hB
  clear hB
  refine HU.out.mono ?_
  rintro e w2 ⟨rfl, hb⟩
  have HB2 := Lib.hid (HB1.out.trans (hb.mono hbW))
  have hbW2 : B0 ≤ w2.heap.size := Nat.le_trans hbW hb.size
  have HT2 := Lib.hid (TrAt.next hb HT.out)
  have HK2 := Lib.hid (HK1.out.next hb HK1.out.lt)
  have HBk2 := Lib.hid (HBk.out.next hb HBk.out.lt)
  clear hb HU HB1 HT HK1 HBk k0 k1 k2 k3 k4
  have c0 : w2.cell? ⟨B, 0, none⟩ = some (.pointer q) := HBk2.out.cell 0
  have k0 := HK2.out.cell 0
  have k1 := HK2.out.cell 1
  have k2 := HK2.out.cell 2
  have k3 := HK2.out.cell 3
  have k4 := HK2.out.cell 4
  simp only [List.getElem?_toArray, List.getElem?_cons_zero, List.getElem?_cons_succ] at k0 k1 k2 k3 k4
  go_wp2_with fail
  refine wp_region_still_tail 5 (by kernel_rfl) (by kernel_rfl) ?_
  simp only [List.take_succ_cons, List.take_zero, List.drop_succ_cons, List.drop_zero]
  iterate 5 still_step
  refine wpStill_nil ?_
  show wpList _ _ _ _ _ w2.drew
  clear k0 k1 k2 k3 k4 c0
  go_wp2_with fail
  refine (find_is n t _ q HT2.out.drew HO.out).mono ?_
  rintro e w3 ⟨hb, hm⟩
  have hb3 := (Below.refl w2.heap.size w2).drew.trans hb
  have HB3 := Lib.hid (HB2.out.trans (hb3.mono hbW2))
  have hbW3 : B0 ≤ w3.heap.size := Nat.le_trans hbW2 hb3.size
  have HT3 := Lib.hid (TrAt.next hb3 HT2.out)
  have HK3 := Lib.hid (HK2.out.next hb3 HK2.out.lt)
  have HBk3 := Lib.hid (HBk2.out.next hb3 HBk2.out.lt)
  clear hb hb3 HB2 HT2 HK2 HBk2
  obtain ⟨z, hz⟩ : ∃ z, t.find cmpN n = z := ⟨_, rfl⟩
  rw [hz] at hm
  have HZ := Lib.hid hz
  clear hz
  cases z with
  | none =>
    obtain rfl := hm
    go_wp2
    go_ret2
    rw [← HBB.out] at HB3
    exact ⟨_, rfl, by rw [del_none ((find_look ordN HN.out.own t HST.out).symm.trans HZ.out)]; exact ⟨B, q, t, rfl, HBk3.out, HT3.out, rfl, HST.out⟩, HB3.out⟩
  | some v =>
    obtain ⟨bn, pl, pr, hh, s', y, rfl, hn⟩ := hm
    clear hn
    have c0 : w3.cell? ⟨B, 0, none⟩ = some (.pointer q) := HBk3.out.cell 0
    have k0 := HK3.out.cell 0
    have k1 := HK3.out.cell 1
    have k2 := HK3.out.cell 2
    have k3 := HK3.out.cell 3
    have k4 := HK3.out.cell 4
    simp only [List.getElem?_toArray, List.getElem?_cons_zero, List.getElem?_cons_succ] at k0 k1 k2 k3 k4
    go_wp2_with fail
    refine wp_region_still_tail 5 (by kernel_rfl) (by kernel_rfl) ?_
    simp only [List.take_succ_cons, List.take_zero, List.drop_succ_cons, List.drop_zero]
    iterate 5 still_step
    refine wpStill_nil ?_
    show wpList _ _ _ _ _ w3.drew
    clear k0 k1 k2 k3 k4 c0
    go_wp2_with fail
    refine (without_is t n _ q HN.out.own HT3.out.drew HST.out HSM.out.tr (by rw [HZ.out]; rfl)).mono ?_
    rintro e w5 ⟨p5, rfl, ht5, hb⟩
    have hb5 := (Below.refl w3.heap.size w3).drew.trans hb
    have HB5 := Lib.hid (HB3.out.trans (hb5.mono hbW3))
    have HT5 := Lib.hid ht5
    clear hb hb5 ht5
    go_wp2
    go_ret2
    rw [← HBB.out] at HB5
    refine ⟨_, rfl, ⟨w5.heap.size, _, _, rfl, Blk.new w5 _ _, TrAt.next ((Below.refl _ _).alloc (Nat.le_refl _) _) HT5.out, flat_without ordN t HN.out.own HST.out, ?_⟩, HB5.out.alloc HB5.out.size _⟩
    show Srt cmpN OwnE _
    rw [flat_without ordN t HN.out.own HST.out]
    exact srt_del _ HST.out
end Go.Proofs.YtamjllakfgphnaaGreatDoor
/- Walks of layer 46: Apply. -/
namespace Go.Proofs.YtamjllakfgphnaaGreatDoor
open Go.RowKit
set_option linter.unusedSimpArgs false
set_option linter.unusedVariables false
attribute [local go_sem ↓] Go.wp_at_zero Go.wp_at_succ
def AppRel (s : St) (l : List Ch) (v : Value) (w : World) (v0 i : Value) (wr : World) : Prop :=
  ∃ (k : Nat) (q : Option Addr), k ≤ l.length ∧ i = .int .i64 k ∧ v0 = .pointer q ∧ StAt wr q (appS s (l.take k)) ∧ RdCh wr v l ∧ UseAt wr ∧ Below w.heap.size w wr
set_option maxRecDepth 100000 in
set_option maxHeartbeats 1000000 in
theorem apply_st {w : World} {p : Option Addr} {s : St} {v : Value} {l : List Ch} (h : StAt w p s) (hv : StV s) (hl : RdCh w v l) (hc : ∀ c ∈ l, ChV c) (hu : UseAt w) (hlen : l.length ≤ 100000) : Calls Tryz.prog 21 #[.pointer p, v] w (StP (appS s l) w) := by
  obtain ⟨A, c, rfl, _⟩ := hl.form
  have H0 : Hid (AppRel s l (.slice A l.length c) w (.pointer p) (.int .i64 (0 : Nat)) w) := Lib.hid ⟨0, p, Nat.zero_le _, rfl, rfl, h, hl, hu, Below.refl _ _⟩
  have HC := Lib.hid hc
  have HV := Lib.hid hv
  obtain ⟨B, q, t, rfl, _⟩ := h
  clear hl hc hu hv
  go_enter Tryz.func21, Tryz.ntmps21
  go_wp2
  go_loopw [0, 13] (fun v0 i wr => AppRel s l (.slice A l.length c) w v0 i wr) (fun _ i _ => l.length - (intOf i).toNat)
  case atStart => exact H0.out
  case round =>
    clear H0
    obtain ⟨k, q', hk, rfl, rfl, hs, hl, hu, hb⟩ := hrel
    have HS := Lib.hid hs
    have HU := Lib.hid hu
    have HL := Lib.hid hl
    have HB := Lib.hid hb
    have hbs : w.heap.size ≤ wr.heap.size := hb.size
    by_cases hlt : k < l.length
    · have HSV := Lib.hid (HV.out.appS (l := l.take k) fun c hc => HC.out c (List.mem_of_mem_take hc))
      have HCK := Lib.hid (HC.out _ (List.getElem_mem hlt))
      have HT := Lib.hid (appS_take s l k hlt)
      obtain ⟨b, o, rfl, hbb, c0, c1, c2, c3, c4, c5, c6⟩ := RdCh.piece hl hlt
      obtain ⟨x, hx⟩ : ∃ x, l[k] = x := ⟨_, rfl⟩
      rw [hx] at c0 c1 c2 c3 c4 c5 c6 HCK HT
      clear hs hu hl hb hx
      obtain ⟨⟨nk, no, nn, ni, nt⟩, val, ab⟩ := x
      simp only at c0 c1 c2 c3 c4 c5 c6
      have i1 : (0 : Int) ≤ (k : Int) := by omega
      have i2 : (k : Int) < (l.length : Int) := by omega
      cases ab with
      | true =>
        go_wp2_with fail
        have hb1 : Below wr.heap.size wr (wr.alloc (.cells #[.int .i64 nk, .string (bs no), .int .i64 nn, .int .i64 ni, .string (bs nt), .string (bs val), .bool true] 105)) := (Below.refl _ _).alloc (Nat.le_refl _) _
        refine (without_st (n := ⟨nk, no, nn, ni, nt⟩) (HS.out.next hb1) HCK.out.1 (HU.out.below hb1) HSV.out.sm).mono ?_
        rintro e w2 ⟨q2, rfl, hs2, hb2⟩
        have HS2 := Lib.hid (show StAt w2 q2 (appS s (l.take (k + 1))) by rw [HT.out]; exact hs2)
        have hb3 := hb1.trans (hb2.mono hb1.size)
        have HU2 := Lib.hid (HU.out.below hb3)
        have HL2 := Lib.hid (HL.out.next hb3)
        have HB2 := Lib.hid (HB.out.trans (hb3.mono hbs))
        clear hb1 hb2 hb3 hs2 c0 c1 c2 c3 c4 c5 c6
        go_wp2
        go_roundw
        case rel => exact ⟨k + 1, q2, by omega, by go_num, rfl, HS2.out, HL2.out, HU2.out, HB2.out⟩
        case measure => simp [intOf]; omega
      | false =>
        go_wp2_with fail
        have hb1 : Below wr.heap.size wr (wr.alloc (.cells #[.int .i64 nk, .string (bs no), .int .i64 nn, .int .i64 ni, .string (bs nt), .string (bs val), .bool false] 105)) := (Below.refl _ _).alloc (Nat.le_refl _) _
        refine (with_st (n := ⟨nk, no, nn, ni, nt⟩) (HS.out.next hb1) HCK.out.1 (HU.out.below hb1) HCK.out.2 HSV.out.sm).mono ?_
        rintro e w2 ⟨q2, rfl, hs2, hb2⟩
        have HS2 := Lib.hid (show StAt w2 q2 (appS s (l.take (k + 1))) by rw [HT.out]; exact hs2)
        have hb3 := hb1.trans (hb2.mono hb1.size)
        have HU2 := Lib.hid (HU.out.below hb3)
        have HL2 := Lib.hid (HL.out.next hb3)
        have HB2 := Lib.hid (HB.out.trans (hb3.mono hbs))
        clear hb1 hb2 hb3 hs2 c0 c1 c2 c3 c4 c5 c6
        go_wp2
        go_roundw
        case rel => exact ⟨k + 1, q2, by omega, by go_num, rfl, HS2.out, HL2.out, HU2.out, HB2.out⟩
        case measure => simp [intOf]; omega
    · obtain rfl : k = l.length := by omega
      go_wp2
      go_ret2
      rw [List.take_length] at HS
      exact ⟨q', rfl, HS.out, HB.out⟩
end Go.Proofs.YtamjllakfgphnaaGreatDoor
