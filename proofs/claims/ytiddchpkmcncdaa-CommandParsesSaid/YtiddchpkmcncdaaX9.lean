/- Walks of layer 41: scanWord. -/
import Derived.Test.YtiddchpkmcncdaaX8
namespace Go.Proofs.Ytiddchpkmcncdaa
open Go.RowKit
set_option linter.unusedSimpArgs false
set_option linter.unusedVariables false
theorem quiet_left {P : Program} {f : FuncId} {args : Array Value} {w : World} {n : Nat} {v : Value}
    (h : Calls P f args (w.drewN n) fun e w' => e = .returned v ∧ w.drewN n = w') : Calls P f args (w.drewN n) fun e w'' => e = .returned v ∧ ∃ m, w'' = w.drewN m :=
  h.mono fun _ _ ⟨he, hm⟩ => ⟨he, n, hm.symm⟩
theorem quoS_err : ∀ (l : Bs) (k p beg : Nat) (ps : Wd) (tx : Bs) (q : Nat) (e : Int), quoS l k p beg ps tx = .err q e → e ≠ 0
  | [], k, p, beg, ps, tx, q, e, h => by unfold quoS at h; cases h; decide
  | b :: l, k + 1, p, beg, ps, tx, q, e, h => quoS_err l k (p + 1) beg ps tx q e h
  | b :: l, 0, p, beg, ps, tx, q, e, h => by
    simp only [quoS] at h
    split at h
    · cases h
    split at h
    · split at h
      · cases h; decide
      · exact quoS_err l _ (p + 1) beg _ _ q e h
    split at h
    · split at h
      · exact quoS_err l _ (p + 1) beg _ _ q e h
      · cases h; decide
    · exact quoS_err l _ (p + 1) beg _ _ q e h
theorem isBlank_at (n : Int) (b : Bool) (h : blkI n = b) (w : World) : Calls Try.prog 70 #[.int .u8 n] w fun e w' => e = .returned (.bool b) ∧ w = w' := by
  subst h; exact isBlank_any n w
theorem operatorAt_at (s : ByteArray) (p : Nat) (o : Bs) (h : opAt (dr s p) = o) (w : World) (hp : p ≤ s.size) (hs : s.size ≤ 100000) :
    Calls Try.prog 71 #[.string s, .int .i64 p] w fun e w' => e = .returned (.string (bs o)) ∧ w = w' := by
  subst h; exact operatorAt_any s p w hp hs
/-- What scanWord leaves. -/
def WPost (w : World) (g : Nat) (s : ByteArray) (vt : Value) (r : R (Wd × Bs × Nat)) (e : Ending) (w' : World) : Prop :=
  ∃ wv vw vx ps, e = .returned wv ∧ w'.ownsRow w.heap.size 61 3 wv ps.length (pcC ps) ∧ w.grownBy w' (some g) ∧
    match r with
    | .ok (ps1, tx1, q) => ps = finS ps1 tx1 ∧ Blk w' g 86 (scC s q vt vw vx 0 0)
    | .err q e => Blk w' g 86 (scC s s.size vt vw vx q e)
theorem WPost.ok {w : World} {g : Nat} {s : ByteArray} {vt : Value} {r : R (Wd × Bs × Nat)} {w' : World} {wv vw vx : Value} {ps1 : Wd} {tx1 : Bs} {q : Nat} (hr : r = .ok (ps1, tx1, q)) (h1 : w'.ownsRow w.heap.size 61 3 wv (finS ps1 tx1).length (pcC (finS ps1 tx1))) (h2 : w.grownBy w' (some g)) (h3 : Blk w' g 86 (scC s q vt vw vx 0 0)) : WPost w g s vt r (.returned wv) w' := by
  subst hr; exact ⟨wv, vw, vx, _, rfl, h1, h2, rfl, h3⟩
theorem WPost.bad {w : World} {g : Nat} {s : ByteArray} {vt : Value} {r : R (Wd × Bs × Nat)} {w' : World} {wv vw vx : Value} {ps : Wd} {q : Nat} {e : Int} (hr : r = .err q e) (h1 : w'.ownsRow w.heap.size 61 3 wv ps.length (pcC ps)) (h2 : w.grownBy w' (some g)) (h3 : Blk w' g 86 (scC s s.size vt vw vx q e)) : WPost w g s vt r (.returned wv) w' := by
  subst hr; exact ⟨wv, vw, vx, _, rfl, h1, h2, h3⟩
theorem own_one (w : World) (base : Nat) (hb : base ≤ w.heap.size) : (w.alloc (.cells #[.string ⟨#[]⟩, .bool false, .bool false] 61)).ownsRow base 61 3 (.slice (some ⟨w.heap.size, 0, none⟩) 1 1) 1 (pcC [lit []]) :=
  ⟨rfl, .inr ⟨w.heap.size, 1, _, rfl, hb, heap_alloc_new w _, Nat.le_refl _, by unfold maxLen; omega, rfl, rfl⟩⟩
theorem finS_nil {ps : Wd} {tx : Bs} (h : (flS ps tx).length = 0) : finS ps tx = [lit []] := by
  unfold finS
  rw [List.length_eq_zero_iff.1 h]; rfl
theorem finS_cons {ps : Wd} {tx : Bs} (h : 0 < (flS ps tx).length) : finS ps tx = flS ps tx := by
  unfold finS
  cases hf : flS ps tx with
  | nil => rw [hf] at h; simp at h
  | cons a l => rfl
theorem wordP_quoted (s : ByteArray) (k : Nat) (ps : Wd) (tx : Bs) (r : R (Wd × Bs × Nat)) (hk : k < s.size) (h : r = (match quoP s (k + 1) k ps tx with
      | .ok (ps', tx', q) => wordS (dr s (k + 1)) (q - (k + 1)) (k + 1) ps' tx'
      | .err q e => .err q e)) :
    (∃ ps' tx' q, quoP s (k + 1) k ps tx = .ok (ps', tx', q) ∧ k + 1 < q ∧ q ≤ s.size ∧ r = wordP s q ps' tx') ∨ ∃ q e, quoP s (k + 1) k ps tx = .err q e ∧ e ≠ 0 ∧ r = .err q e := by
  cases hq : quoP s (k + 1) k ps tx with
  | ok a =>
    obtain ⟨ps', tx', q⟩ := a
    have := quoP_pos s (k + 1) k ps tx ps' tx' q (by omega) hq
    rw [hq] at h
    exact .inl ⟨ps', tx', q, rfl, this.1, this.2, by rw [h]; exact wordP_quo s (k + 1) ps' tx' q (by omega) this.2⟩
  | err q e =>
    rw [hq] at h
    exact .inr ⟨q, e, rfl, quoS_err _ _ _ _ _ _ _ _ hq, h⟩
end Go.Proofs.Ytiddchpkmcncdaa
