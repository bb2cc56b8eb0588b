/- Walks of layer 41: the parser's next, take, fail; isWord, isRedirection. -/
import Derived.Test.YtiddchpkmcncdaaM3
import Derived.Test.YtiddchpkmcncdaaX5
namespace Go.Proofs.Ytiddchpkmcncdaa
open Go.RowKit
set_option linter.unusedSimpArgs false
set_option linter.unusedVariables false
def NT (w : World) (v : Value) (t : Tk) : Prop := RdW w v t.word
theorem tkC_row : ∀ (l : List Tk) (vs : List Value), tkC l vs = rowC tkV l vs
  | [], _ => by simp [tkC, rowC]
  | a :: l, [] => by simp [tkC, rowC]
  | a :: l, b :: vs => by simp [tkC, rowC, tkC_row l vs]
theorem RdT.row {w : World} {v : Value} {l : List Tk} (h : RdT w v l) : RowRd 128 tkV NT w v l := by
  obtain ⟨vs, h1, h2⟩ := h
  exact ⟨vs, h1, by rw [← tkC_row]; exact h2⟩
/-- The parser with the tokens that are left. -/
def PAt (w : World) (pb : Nat) (ts : List Tk) (en : Nat) (wh er : Int) : Prop := ∃ tv, Blk w pb 89 #[tv, .int .i64 (en : Int), .int .i64 wh, .int .i64 er] ∧ RowRd 128 tkV NT w tv ts
def hdT (en : Nat) (ts : List Tk) : Tk := ts.headD ⟨en, [], [], []⟩
def tokA (t : Tk) (v : Value) : Value := .agg #[.int .i64 (t.pos : Int), .string (bs t.op), v, .string (bs t.name)]
theorem tkV_len (t : Tk) (v : Value) : (tkV t v).length = 4 := rfl
theorem PAt.lt {w : World} {pb : Nat} {ts : List Tk} {en : Nat} {wh er : Int} (h : PAt w pb ts en wh er) : pb < w.heap.size := by obtain ⟨tv, h1, _⟩ := h; exact h1.lt
theorem PAt.keep {w w' : World} {pb : Nat} {ts : List Tk} {en : Nat} {wh er : Int} {L : List TypeId} (h : PAt w pb ts en wh er) (k : Kept L w w') (h1 : L.contains 89 = false) (h2 : L.contains 128 = false) (h3 : L.contains 61 = false) : PAt w' pb ts en wh er := by
  obtain ⟨tv, a, b⟩ := h
  exact ⟨tv, a.keep k h1, b.keep k h2 (fun v x h => Rd.keep h k h3)⟩
theorem PAt.next {w w' : World} {pb : Nat} {ts : List Tk} {en : Nat} {wh er : Int} (h : PAt w pb ts en wh er) (hb : Below w.heap.size w w') : PAt w' pb ts en wh er := h.keep (Kept.of_below [] hb) rfl rfl rfl
theorem rdw_nil (w : World) : RdW w (.slice none 0 0) [] := ⟨none, 0, rfl, Nat.le_refl _, Nat.zero_le _, .inl ⟨rfl, rfl⟩⟩
set_option maxRecDepth 100000 in
theorem next_any (w : World) (pb : Nat) (ts : List Tk) (en : Nat) (wh er : Int) (h : PAt w pb ts en wh er) (hn : ts.length ≤ 100000) :
    Calls Try.prog 77 #[ptr pb] w fun e w' => ∃ v, e = .returned (tokA (hdT en ts) v) ∧ RdW w' v (hdT en ts).word ∧ Below w.heap.size w w' := by
  obtain ⟨tv, h1, h2⟩ := h
  have c0 : w.cell? ⟨pb, 0, none⟩ = some tv := h1.cell 0
  have c1 : w.cell? ⟨pb, 1, none⟩ = some (.int .i64 (en : Int)) := h1.cell 1
  have hlt := h1.lt
  clear h1
  cases ts with
  | nil =>
    obtain ⟨A, c, rfl, _⟩ := h2.form
    go_enter Try.func77, Try.ntmps77
    go_wp2
    refine bodyPost_ret (v := tokA (hdT en []) (.slice none 0 0)) (by simp [results, Try.results77, go_sem, tokA, hdT, bs]) rfl ?_
    exact ⟨_, rfl, rdw_nil _, (Below.refl _ _).alloc (Nat.le_refl _) _⟩
  | cons t ts =>
    obtain ⟨b, o, c, u, rfl, hc, hb, hN, hcell⟩ := h2.at_ tkV_len (i := 0) (x := t) rfl
    have d0 : w.cell? ⟨b, o, none⟩ = some (.int .i64 (t.pos : Int)) := hcell 0 _ rfl
    have d1 : w.cell? ⟨b, o + 1, none⟩ = some (.string (bs t.op)) := hcell 1 _ rfl
    have d2 : w.cell? ⟨b, o + 2, none⟩ = some u := hcell 2 _ rfl
    have d3 : w.cell? ⟨b, o + 3, none⟩ = some (.string (bs t.name)) := hcell 3 _ rfl
    have HN := Lib.hid (show RdW w u t.word from hN)
    obtain ⟨A, cc, rfl, hcc⟩ := Rd.form HN.out
    have hpos : (((t :: ts).length : Nat) : Int) = (ts.length : Int) + 1 := by simp
    have hz : ((((t :: ts).length : Nat) : Int) == 0) = false := by rw [hpos]; exact beq_false_of_ne (by omega)
    have hl : (0 : Int) < (((t :: ts).length : Nat) : Int) := by rw [hpos]; omega
    clear hcell hN h2 hpos hcc
    generalize hL : (t :: ts).length = n at *
    clear hL
    go_enter Try.func77, Try.ntmps77
    go_wp2
    refine bodyPost_ret (v := tokA (hdT en (t :: ts)) (.slice A t.word.length cc)) (by simp [results, Try.results77, go_sem, tokA, hdT]) rfl ?_
    exact ⟨_, rfl, Rd.next HN.out ((Below.refl _ _).alloc (Nat.le_refl _) _), (Below.refl _ _).alloc (Nat.le_refl _) _⟩
end Go.Proofs.Ytiddchpkmcncdaa
