/- Walks of layer 21: Same. -/
import Derived.Test.YtdhfkokinnmfhaaDoorL1
import Derived.Deep.LoopGhost
namespace Go.Proofs.YtdhfkokinnmfhaaDoor
open Go.RowKit
set_option linter.unusedSimpArgs false
set_option linter.unusedVariables false
/-- A token as it lies in memory. -/
structure Tk where
  kind : Int
  text : ByteArray
  value : Int
  bytes : ByteArray
  line : Int
  col : Int
def tkOf (s : ByteArray) (t : Att × Nat) : Tk := ⟨t.1.kind, t.1.text, t.1.value, t.1.bytes, lineN s t.2, colN s t.2⟩
def sameT (a b : Tk) : Bool := decide (a.kind = b.kind) && decide (a.text = b.text) && decide (a.value = b.value) && decide (a.bytes = b.bytes)
def tkV (a : Tk) : Value := .agg #[.int .i64 a.kind, .string a.text, .int .i64 a.value, .string a.bytes, .int .i64 a.line, .int .i64 a.col]
def TkAt (w : World) (g o : Nat) (t : Tk) : Prop :=
  w.cell? ⟨g, o, none⟩ = some (.int .i64 t.kind) ∧ w.cell? ⟨g, o + 1, none⟩ = some (.string t.text) ∧ w.cell? ⟨g, o + 2, none⟩ = some (.int .i64 t.value) ∧ w.cell? ⟨g, o + 3, none⟩ = some (.string t.bytes) ∧ w.cell? ⟨g, o + 4, none⟩ = some (.int .i64 t.line) ∧ w.cell? ⟨g, o + 5, none⟩ = some (.int .i64 t.col)
def TkRow (w : World) (g : Nat) (n : Nat) (f : Nat → Tk) : Prop := g < w.heap.size ∧ ∀ i, i < n → TkAt w g (i * 6) (f i)
theorem TkRow.next {w w' : World} {g n : Nat} {f : Nat → Tk} (h : TkRow w g n f) (hb : Below w.heap.size w w') : TkRow w' g n f := by
  obtain ⟨hc, _⟩ := bcell hb
  refine ⟨Nat.lt_of_lt_of_le h.1 hb.size, fun i hi => ?_⟩
  obtain ⟨h0, h1, h2, h3, h4, h5⟩ := h.2 i hi
  exact ⟨by rw [hc _ _ h.1]; exact h0, by rw [hc _ _ h.1]; exact h1, by rw [hc _ _ h.1]; exact h2, by rw [hc _ _ h.1]; exact h3, by rw [hc _ _ h.1]; exact h4, by rw [hc _ _ h.1]; exact h5⟩
def tkF (s : ByteArray) (L : List (Att × Nat)) (i : Nat) : Tk := tkOf s (L.getD i (endA, 0))
theorem Toks.row {w : World} {g : Nat} {s : ByteArray} {L : List (Att × Nat)} (h : Toks w g s L) : TkRow w g L.length (tkF s L) := by
  refine ⟨h.1, fun i hi => ?_⟩
  have := h.2 i (L[i]) (List.getElem?_eq_getElem hi)
  unfold tkF
  rw [List.getD_eq_getElem?_getD, List.getElem?_eq_getElem hi]
  exact this
set_option maxRecDepth 100000 in
set_option maxHeartbeats 1000000 in
theorem sameF_any (a b : Tk) (w : World) : Calls Tryd.prog 39 #[tkV a, tkV b] w fun e w' => e = .returned (.bool (sameT a b)) ∧ Below w.heap.size w w' := by
  obtain ⟨k, t, v, y, l, c⟩ := a
  obtain ⟨k', t', v', y', l', c'⟩ := b
  have HB : ∀ A B : Obj, Below w.heap.size w ((w.alloc A).alloc B) := fun A B => ((Below.refl _ _).alloc (Nat.le_refl _) _).alloc (by simp) _
  have HBB := Lib.hid HB
  clear HB
  simp only [tkV]
  by_cases h1 : k = k'
  · subst h1
    cases h2 : (t.toList == t'.toList) with
    | false =>
      have HT := Lib.hid (show decide (t = t') = false by rw [← str_beq]; exact h2)
      go_enter Tryd.func39, Tryd.ntmps39
      go_wp2
      go_ret
      exact ⟨ret_bool (by unfold sameT; simp only []; rw [HT.out]; simp), HBB.out _ _⟩
    | true =>
      have HT := Lib.hid (show decide (t = t') = true by rw [← str_beq]; exact h2)
      by_cases h3 : v = v'
      · subst h3
        cases h4 : (y.toList == y'.toList) with
        | false =>
          have HY := Lib.hid (show decide (y = y') = false by rw [← str_beq]; exact h4)
          go_enter Tryd.func39, Tryd.ntmps39
          go_wp2
          go_ret
          exact ⟨ret_bool (by unfold sameT; simp only []; rw [HT.out, HY.out]; simp), HBB.out _ _⟩
        | true =>
          have HY := Lib.hid (show decide (y = y') = true by rw [← str_beq]; exact h4)
          go_enter Tryd.func39, Tryd.ntmps39
          go_wp2
          go_ret
          exact ⟨ret_bool (by unfold sameT; simp only []; rw [HT.out, HY.out]; simp), HBB.out _ _⟩
      · have h3' : (v == v') = false := by simpa using h3
        have H3 := Lib.hid h3
        clear h3
        go_enter Tryd.func39, Tryd.ntmps39
        go_wp2
        go_ret
        exact ⟨ret_bool (by unfold sameT; simp only []; rw [decide_eq_false H3.out]; simp), HBB.out _ _⟩
  · have h1' : (k == k') = false := by simpa using h1
    have H1 := Lib.hid h1
    clear h1
    go_enter Tryd.func39, Tryd.ntmps39
    go_wp2
    go_ret
    exact ⟨ret_bool (by unfold sameT; simp only []; rw [decide_eq_false H1.out]; simp), HBB.out _ _⟩
theorem equal_no (p q : Option Addr) (n m c d : Nat) (w : World) (h : n ≠ m) (hn : n ≤ 100000) (hm : m ≤ 100000) :
    Calls Tryd.prog 38 #[.slice p n c, .slice q m d, .func (.func 39) #[] #[]] w fun e w' => e = .returned (.bool false) ∧ Below w.heap.size w w' := by
  have hne : ((n : Int) != (m : Int)) = true := by rw [bne_iff_ne]; omega
  clear h
  go_enter Tryd.func38, Tryd.ntmps38
  go_wp2
  go_ret
  exact ⟨rfl, Below.refl _ _⟩
set_option maxRecDepth 100000 in
set_option maxHeartbeats 2000000 in
theorem equal_eq (g g' n c d : Nat) (f h : Nat → Tk) (w : World) (hn : n ≤ 100000) (hf : TkRow w g n f) (hh : TkRow w g' n h) (B : Bool) (hB : (B = true ∧ ∀ i, i < n → sameT (f i) (h i) = true) ∨ (B = false ∧ ∃ i, i < n ∧ sameT (f i) (h i) = false)) :
    Calls Tryd.prog 38 #[.slice (some ⟨g, 0, none⟩) n c, .slice (some ⟨g', 0, none⟩) n d, .func (.func 39) #[] #[]] w fun e w' => e = .returned (.bool B) ∧ Below w.heap.size w w' := by
  have HB := Lib.hid hB
  clear hB
  go_enter Tryd.func38, Tryd.ntmps38
  go_wp2
  go_loopw [17] (fun i wr => ∃ k : Nat, k ≤ n ∧ i = .int .i64 k ∧ (∀ j, j < k → sameT (f j) (h j) = true) ∧ Below w.heap.size w wr) (fun i _ => n - (intOf i).toNat)
  case atStart => exact ⟨0, Nat.zero_le _, rfl, fun j h => by omega, Below.refl _ _⟩
  case round =>
    obtain ⟨k, hk, rfl, hj, hb⟩ := hrel
    have HJ := Lib.hid hj
    clear hj
    have hbs := hb.size
    by_cases hlt : k < n
    · obtain ⟨c0, c1, c2, c3, c4, c5⟩ := (hf.next hb).2 k hlt
      obtain ⟨d0, d1, d2, d3, d4, d5⟩ := (hh.next hb).2 k hlt
      have hg1 : g < wr.heap.size := (hf.next hb).1
      have hg2 : g' < wr.heap.size := (hh.next hb).1
      cases hs : sameT (f k) (h k) with
      | true =>
        have HS := Lib.hid hs
        clear hs
        rcases hfk : f k with ⟨a1, a2, a3, a4, a5, a6⟩
        rcases hhk : h k with ⟨b1, b2, b3, b4, b5, b6⟩
        rw [hfk] at c0 c1 c2 c3 c4 c5
        rw [hhk] at d0 d1 d2 d3 d4 d5
        have HS2 := Lib.hid (show sameT ⟨a1, a2, a3, a4, a5, a6⟩ ⟨b1, b2, b3, b4, b5, b6⟩ = true by rw [← hfk, ← hhk]; exact HS.out)
        clear hfk hhk
        simp only at c0 c1 c2 c3 c4 c5 d0 d1 d2 d3 d4 d5
        go_wp2_with (go_at_call 39; refine (sameF_any ⟨a1, a2, a3, a4, a5, a6⟩ ⟨b1, b2, b3, b4, b5, b6⟩ _).mono ?_; rintro e w5 ⟨rfl, k5⟩; rw [HS2.out])
        go_roundw
        case rel => exact ⟨k + 1, by omega, by go_num, fun j hj => (by by_cases e : j = k; (subst e; exact HS.out); exact HJ.out j (by omega)), ((hb.alloc hbs _).alloc (by simp; omega) _).trans (k5.mono (by simp; omega))⟩
        case measure => simp [intOf]; omega
      | false =>
        have HF := Lib.hid (show B = false by
          rcases HB.out with ⟨_, h2⟩ | ⟨h1, _⟩
          · have := h2 k hlt; rw [hs] at this; cases this
          · exact h1)
        have HS := Lib.hid hs
        clear hs
        rcases hfk : f k with ⟨a1, a2, a3, a4, a5, a6⟩
        rcases hhk : h k with ⟨b1, b2, b3, b4, b5, b6⟩
        rw [hfk] at c0 c1 c2 c3 c4 c5
        rw [hhk] at d0 d1 d2 d3 d4 d5
        have HS2 := Lib.hid (show sameT ⟨a1, a2, a3, a4, a5, a6⟩ ⟨b1, b2, b3, b4, b5, b6⟩ = false by rw [← hfk, ← hhk]; exact HS.out)
        clear hfk hhk
        simp only at c0 c1 c2 c3 c4 c5 d0 d1 d2 d3 d4 d5
        go_wp2_with (go_at_call 39; refine (sameF_any ⟨a1, a2, a3, a4, a5, a6⟩ ⟨b1, b2, b3, b4, b5, b6⟩ _).mono ?_; rintro e w5 ⟨rfl, k5⟩; rw [HS2.out])
        go_ret
        exact ⟨by rw [HF.out]; rfl, ((hb.alloc hbs _).alloc (by simp; omega) _).trans (k5.mono (by simp; omega))⟩
    · have HF := Lib.hid (show B = true by
        rcases HB.out with ⟨h1, _⟩ | ⟨_, j, hj, h2⟩
        · exact h1
        · have := HJ.out j (by omega); rw [h2] at this; cases this)
      go_wp2
      go_ret
      exact ⟨by rw [HF.out]; rfl, hb⟩
theorem same_no (p q : Option Addr) (n m c d : Nat) (w : World) (h : n ≠ m) (hn : n ≤ 100000) (hm : m ≤ 100000) :
    Calls Tryd.prog 23 #[.slice p n c, .slice q m d] w fun e w' => e = .returned (.bool false) ∧ Below w.heap.size w w' := by
  go_enter Tryd.func23, Tryd.ntmps23
  go_wp2_with fail
  refine (equal_no p q n m c d _ h hn hm).mono ?_
  rintro e w1 ⟨rfl, k1⟩
  go_wp2
  go_ret
  exact ⟨rfl, k1⟩
theorem same_eq (g g' n c d : Nat) (f h : Nat → Tk) (w : World) (hn : n ≤ 100000) (hf : TkRow w g n f) (hh : TkRow w g' n h) (B : Bool) (hB : (B = true ∧ ∀ i, i < n → sameT (f i) (h i) = true) ∨ (B = false ∧ ∃ i, i < n ∧ sameT (f i) (h i) = false)) :
    Calls Tryd.prog 23 #[.slice (some ⟨g, 0, none⟩) n c, .slice (some ⟨g', 0, none⟩) n d] w fun e w' => e = .returned (.bool B) ∧ Below w.heap.size w w' := by
  have HB := Lib.hid hB
  clear hB
  go_enter Tryd.func23, Tryd.ntmps23
  go_wp2_with fail
  refine (equal_eq g g' n c d f h _ hn hf hh B HB.out).mono ?_
  rintro e w1 ⟨rfl, k1⟩
  go_wp2
  go_ret
  exact ⟨rfl, k1⟩
theorem sameT_refl (a : Tk) : sameT a a = true := by simp [sameT]
end Go.Proofs.YtdhfkokinnmfhaaDoor
