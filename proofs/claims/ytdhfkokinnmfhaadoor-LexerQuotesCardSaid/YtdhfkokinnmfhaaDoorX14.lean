/- Walks of layer 21: Scan by its two ends; known. -/
import Derived.Test.YtdhfkokinnmfhaaDoorX13
namespace Go.Proofs.YtdhfkokinnmfhaaDoor
open Go.RowKit
set_option linter.unusedSimpArgs false
set_option linter.unusedVariables false
/-- The six cells of token number i. -/
def TokAt (w : World) (g : Nat) (s : ByteArray) (i : Nat) (t : Att × Nat) : Prop :=
  w.cell? ⟨g, i * 6, none⟩ = some (.int .i64 t.1.kind) ∧ w.cell? ⟨g, i * 6 + 1, none⟩ = some (.string t.1.text) ∧ w.cell? ⟨g, i * 6 + 2, none⟩ = some (.int .i64 t.1.value) ∧ w.cell? ⟨g, i * 6 + 3, none⟩ = some (.string t.1.bytes) ∧ w.cell? ⟨g, i * 6 + 4, none⟩ = some (.int .i64 (lineN s t.2)) ∧ w.cell? ⟨g, i * 6 + 5, none⟩ = some (.int .i64 (colN s t.2))
def Toks (w : World) (g : Nat) (s : ByteArray) (L : List (Att × Nat)) : Prop := g < w.heap.size ∧ ∀ i t, L[i]? = some t → TokAt w g s i t
theorem Toks.next {w w' : World} {g : Nat} {s : ByteArray} {L : List (Att × Nat)} (h : Toks w g s L) (hb : Below w.heap.size w w') : Toks w' g s L := by
  obtain ⟨hc, _⟩ := bcell hb
  refine ⟨Nat.lt_of_lt_of_le h.1 hb.size, fun i t ht => ?_⟩
  obtain ⟨h0, h1, h2, h3, h4, h5⟩ := h.2 i t ht
  exact ⟨by rw [hc _ _ h.1]; exact h0, by rw [hc _ _ h.1]; exact h1, by rw [hc _ _ h.1]; exact h2, by rw [hc _ _ h.1]; exact h3, by rw [hc _ _ h.1]; exact h4, by rw [hc _ _ h.1]; exact h5⟩
theorem toks_of {w : World} {base g len cap n : Nat} {s : ByteArray} {L : List (Att × Nat)} (h : w.ownsRow base 35 6 (.slice (some ⟨g, 0, none⟩) len cap) n (toksC s L)) (h0 : 0 < L.length) : Toks w g s L := by
  have hl := toksC_len s L
  have key : ∀ i t j, L[i]? = some t → j < 6 → w.cell? ⟨g, i * 6 + j, none⟩ = (tokC s t)[j]? := fun i t j ht hj => by
    have hi : i < L.length := (List.getElem?_eq_some_iff.1 ht).1
    obtain ⟨_, _, hc, _⟩ := own_cell h (i * 6 + j) (by omega)
    rw [hc, toksC_get s L i j t ht hj]
  refine ⟨?_, fun i t ht => ⟨by rw [show i * 6 = i * 6 + 0 from rfl, key i t 0 ht (by omega)]; rfl, by rw [key i t 1 ht (by omega)]; rfl, by rw [key i t 2 ht (by omega)]; rfl, by rw [key i t 3 ht (by omega)]; rfl, by rw [key i t 4 ht (by omega)]; rfl, by rw [key i t 5 ht (by omega)]; rfl⟩⟩
  exact (own_cell h 0 (by omega)).2.2.2
theorem scan_ok (s : ByteArray) (w : World) (l : List (Att × Nat)) (ho : EscAt w) (hs : s.size ≤ 4000) (hl : scanS s = .ok l) :
    Calls Tryd.prog 11 #[.string s] w fun e w' => ∃ g cap, e = .returned (.tuple #[.slice (some ⟨g, 0, none⟩) (l.length + 1) cap, .int .i64 0, .int .i64 0, .int .i64 0]) ∧ Toks w' g s (l ++ [(endA, s.size)]) ∧ w.heap.size ≤ g ∧ l.length + 1 ≤ cap ∧ Below w.heap.size w w' := by
  refine (scan_any s w ho hs).mono ?_
  rintro e w' ⟨hb, hp⟩
  rw [hl] at hp
  obtain ⟨v, hv, rfl⟩ := hp
  obtain ⟨_, ⟨_, h0⟩ | ⟨g, cap, cur, rfl, hg, hh, hc, _⟩⟩ := id hv
  · omega
  · exact ⟨g, cap, rfl, toks_of hv (by simp), hg, hc, hb⟩
theorem scan_no (s : ByteArray) (w : World) (p : Nat) (off er : Int) (ho : EscAt w) (hs : s.size ≤ 4000) (hl : scanS s = .err p off er) :
    Calls Tryd.prog 11 #[.string s] w fun e w' => e = .returned (.tuple #[.slice none 0 0, .int .i64 (lineN s p), .int .i64 (colN s p + off), .int .i64 er]) ∧ Below w.heap.size w w' := by
  refine (scan_any s w ho hs).mono ?_
  rintro e w' ⟨hb, hp⟩
  rw [hl] at hp
  exact ⟨hp, hb⟩
def k1 : ByteArray := ⟨#[120, 32, 61, 32, 48, 120, 49, 102, 59, 32, 47, 47, 32, 101, 110, 100]⟩
def k2 : ByteArray := ⟨#[48, 49]⟩
def k3 : ByteArray := ⟨#[39, 97, 98, 39]⟩
def k1L : List (Att × Nat) := [(⟨1, ⟨#[120]⟩, 0, ⟨#[]⟩, 1, 0, 0⟩, 0), (⟨5, ⟨#[61]⟩, 0, ⟨#[]⟩, 1, 0, 0⟩, 2), (⟨2, ⟨#[48, 120, 49, 102]⟩, 31, ⟨#[]⟩, 4, 0, 0⟩, 4), (⟨5, ⟨#[59]⟩, 0, ⟨#[]⟩, 1, 0, 0⟩, 8)]
theorem k1_scan : scanS k1 = .ok k1L := by kernel_rfl
theorem k2_scan : scanS k2 = .err 0 0 3 := by kernel_rfl
theorem k3_scan : scanS k3 = .err 0 2 6 := by kernel_rfl
theorem k1_col : colN k1 16 = 17 := by kernel_rfl
theorem k3_line : lineN k3 0 = 1 := by kernel_rfl
theorem k3_col : colN k3 0 = 1 := by kernel_rfl
theorem bnext {w w1 w2 : World} (h : Below w.heap.size w w1) (k : Below w1.heap.size w1 w2) : Below w.heap.size w w2 := h.trans (k.mono h.size)
set_option maxRecDepth 100000 in
set_option maxHeartbeats 1000000 in
theorem known_any (w : World) (ho : EscAt w) : Calls Tryd.prog 13 #[] w fun e w' => e = .returned (.bool true) ∧ Below w.heap.size w w' := by
  go_enter Tryd.func13, Tryd.ntmps13
  go_wp2_with fail
  refine (scan_ok k1 _ k1L ho (by decide) k1_scan).mono ?_
  rintro e w1 ⟨g, cap, rfl, hT, hg, hcap, k1b⟩
  have hcap5 : 5 ≤ cap := hcap
  simp only [show k1L.length + 1 = 5 from rfl]
  go_wp2_with fail
  refine (scan_no k2 _ 0 0 3 (ho.next k1b) (by decide) k2_scan).mono ?_
  rintro e w2 ⟨rfl, k2b⟩
  go_wp2_with fail
  refine (scan_no k3 _ 0 2 6 (ho.next (bnext k1b k2b)) (by decide) k3_scan).mono ?_
  rintro e w3 ⟨rfl, k3b⟩
  rw [k3_line, k3_col]
  have hT3 := (hT.next k2b).next k3b
  have c14 : w3.cell? ⟨g, 14, none⟩ = some (.int .i64 31) := (hT3.2 2 _ rfl).2.2.1
  have c24 : w3.cell? ⟨g, 24, none⟩ = some (.int .i64 0) := (hT3.2 4 _ rfl).1
  have c29 : w3.cell? ⟨g, 29, none⟩ = some (.int .i64 17) := (hT3.2 4 _ rfl).2.2.2.2.2.trans (congrArg (fun x => some (Value.int .i64 x)) k1_col)
  clear hT hT3 hcap
  have hB := bnext (bnext k1b k2b) k3b
  go_wp2
  go_ret
  exact ⟨rfl, hB⟩
end Go.Proofs.YtdhfkokinnmfhaaDoor
