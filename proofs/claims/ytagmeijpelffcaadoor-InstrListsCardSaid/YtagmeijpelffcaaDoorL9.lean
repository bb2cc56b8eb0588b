/- A slice of instructions that came in, opened; the law InstrLists. -/
import Derived.Test.YtagmeijpelffcaaDoorL8
import Derived.Deep.Slices
import Derived.Deep.Fields
import Derived.ChangeSame
namespace Go.Proofs.YtagmeijpelffcaaDoor
open Go.ChangeShapes Go.WideShapes Go.RowKit
set_option linter.unusedSimpArgs false
set_option linter.unusedVariables false
/-- The number in a cell. -/
def numAt (w : World) (a : Addr) : Int := match w.cell? a with | some (.int .i64 n) => n | _ => 0
def InRow (w : World) (a : Option Addr) (len : Nat) : Prop := len = 0 ∨ ∃ x, a = some x ∧ ∀ i, i < 4 * len → ∃ n, w.cell? (x.add i) = some (.int .i64 n)
set_option maxRecDepth 100000 in
theorem open_ins {H : Type} {enc : TypeId × Value → H} {W : World} {base : Nat} {sp : Nat → Bool} {held : Bool} {fuel : Nat} {a : Option Addr} {len cap : Nat} {x : DataW H × List MemPlace}
    (h : DataW.trod enc Tryd.prog W base sp held fuel 56 [.slice a len cap] = some x) : InRow W a len := by
  have c23 : Tryd.prog.cellsOf 23 = 4 := by kernel_rfl
  have c3 : Tryd.prog.cellsOf 3 = 1 := by kernel_rfl
  rcases DataW.trod_slice Tryd.underlying56 h with ⟨hcs, _⟩ | ⟨ad, l, c, elems, rest, n, _, hcs, _, _, _, _, hel, hall, _⟩
  · cases hcs; exact .inl rfl
  · cases hcs
    refine .inr ⟨ad, rfl, fun i hi => ?_⟩
    have h1 := hall (i / 4) (by omega)
    have hx : elems[i / 4]? = some (elems[i / 4]'(by omega)) := List.getElem?_eq_getElem _
    rw [hx] at h1
    simp only [c23] at h1
    simp only [Option.bind_eq_some_iff] at h1
    obtain ⟨cs, hc, ht⟩ := h1
    obtain ⟨_, hcl, hat⟩ := World.cells?_some hc
    obtain ⟨ys, m, _, _, _, hyl, hf⟩ := DataW.trod_struct Tryd.underlying23 ht
    have hj : i % 4 < 4 := by omega
    have hcell := hat (i % 4) (by omega)
    have e : (ad.add (i / 4 * 4)).add (i % 4) = ad.add i := by
      rw [Go.Deep.add_add]; congr 1; omega
    rw [e] at hcell
    have key : ∃ n, cs[i % 4]? = some (.int .i64 n) := by
      have hr : i % 4 = 0 ∨ i % 4 = 1 ∨ i % 4 = 2 ∨ i % 4 = 3 := by omega
      have y0 : ys[0]? = some (ys[0]'(by simp at hyl; omega)) := List.getElem?_eq_getElem _
      have y1 : ys[1]? = some (ys[1]'(by simp at hyl; omega)) := List.getElem?_eq_getElem _
      have y2 : ys[2]? = some (ys[2]'(by simp at hyl; omega)) := List.getElem?_eq_getElem _
      have y3 : ys[3]? = some (ys[3]'(by simp at hyl; omega)) := List.getElem?_eq_getElem _
      have f0 := hf 0 _ rfl
      have f1 := hf 1 _ rfl
      have f2 := hf 2 _ rfl
      have f3 := hf 3 _ rfl
      rw [y0] at f0
      rw [y1] at f1
      rw [y2] at f2
      rw [y3] at f3
      obtain ⟨n0, e0, _⟩ := DataW.trod_int Tryd.underlying3 f0
      obtain ⟨n1, e1, _⟩ := DataW.trod_int Tryd.underlying3 f1
      obtain ⟨n2, e2, _⟩ := DataW.trod_int Tryd.underlying3 f2
      obtain ⟨n3, e3, _⟩ := DataW.trod_int Tryd.underlying3 f3
      replace e0 : (cs.drop 0).take (Tryd.prog.cellsOf 3) = [.int .i64 n0] := e0
      replace e1 : (cs.drop 1).take (Tryd.prog.cellsOf 3) = [.int .i64 n1] := e1
      replace e2 : (cs.drop 2).take (Tryd.prog.cellsOf 3) = [.int .i64 n2] := e2
      replace e3 : (cs.drop 3).take (Tryd.prog.cellsOf 3) = [.int .i64 n3] := e3
      have tk : ∀ (j : Nat) (v : Value), (cs.drop j).take (Tryd.prog.cellsOf 3) = [v] → cs[j]? = some v := by
        intro j v hv
        simp only [c3] at hv
        have h0 : ((cs.drop j).take 1)[0]? = some v := by rw [hv]; rfl
        rw [List.getElem?_take, if_pos (by omega), List.getElem?_drop] at h0
        simpa using h0
      rcases hr with hr | hr | hr | hr <;> rw [hr]
      · exact ⟨n0, tk 0 _ e0⟩
      · exact ⟨n1, tk 1 _ e1⟩
      · exact ⟨n2, tk 2 _ e2⟩
      · exact ⟨n3, tk 3 _ e3⟩
    obtain ⟨n, hn⟩ := key
    exact ⟨n, by rw [hcell]; exact hn⟩
theorem lists_walk (a : Option Addr) (len cap : Nat) (w : World) (ho : OpsAt w) (h : InRow w a len) :
    Calls Tryd.prog 11 #[.slice a len cap] w fun e w' => e = .returned (.bool true) ∧ Below w.heap.size w w' := by
  by_cases h0 : len = 0
  · subst h0; exact lists_zero a cap w ho
  by_cases hl : 40 < len
  · exact lists_long a len cap w ho hl
  rcases h with h | ⟨⟨b, off, spot⟩, rfl, hc⟩
  · omega
  · obtain ⟨n0, hc0⟩ := hc 0 (by omega)
    have hspot : spot = none := by simpa [Addr.add] using World.cell?_spot hc0
    subst hspot
    have hlt : b < w.heap.size := by
      apply Nat.lt_of_not_le
      intro hle
      have hn : w.heap[b]? = none := by simp; omega
      simp [World.cell?, Addr.add, hn] at hc0
    refine lists_mid b off len cap ((List.range (4 * len)).map fun i => numAt w ⟨b, off + i, none⟩) w ho ⟨hlt, fun i hi => ?_⟩ (by omega) (by omega)
    obtain ⟨n, hn⟩ := hc i hi
    have e : (⟨b, off, none⟩ : Addr).add i = ⟨b, off + i, none⟩ := by
      unfold Addr.add; split
      · rename_i h; subst h; rfl
      · rfl
    rw [e] at hn
    have hv : byteAt ((List.range (4 * len)).map fun i => numAt w ⟨b, off + i, none⟩) i = n := by
      unfold byteAt
      simp [hi, numAt, hn]
    rw [hv, hn]
end Go.Proofs.YtagmeijpelffcaaDoor
