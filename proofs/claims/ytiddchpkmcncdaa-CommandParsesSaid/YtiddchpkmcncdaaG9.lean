/- Walks of layer 41: the reference's simple. -/
import Derived.Test.YtiddchpkmcncdaaG8
import Derived.Test.YtiddchpkmcncdaaG1
import Derived.Test.YtiddchpkmcncdaaX22
namespace Go.Proofs.Ytiddchpkmcncdaa
open Go.RowKit
set_option linter.unusedSimpArgs false
set_option linter.unusedVariables false
abbrev zSm : Array Value := #[.slice none 0 0, .slice none 0 0, .slice none 0 0, .slice none 0 0, .bool false]
abbrev zGm : Array Value := #[.slice none 0 0, .int .i64 0]
/-- The state of simple: the tokens left, the command so far; B: the first block of the call. -/
def RsS (w0 : World) (en : Nat) (v : Value) (ts : List Tk) (c : Sm) (wr : World) : Prop :=
  Below w0.heap.size w0 wr ∧ Blk wr w0.heap.size 96 #[v, .int .i64 (en : Int)] ∧ RdK wr v ts ∧ Blk wr (w0.heap.size + 1) 109 zSm ∧ Blk wr (w0.heap.size + 1 + 1) 96 zGm ∧ SmB 51 39 112 109 w0.heap.size (w0.heap.size + 1 + 1 + 1) c wr
theorem RsS.next {w0 : World} {en : Nat} {v : Value} {ts : List Tk} {c : Sm} {w w' : World} (h : RsS w0 en v ts c w) (hb : Below w.heap.size w w') : RsS w0 en v ts c w' := by
  obtain ⟨h1, h2, h3, h4, h5, h6⟩ := h
  exact ⟨h1.trans (hb.mono h1.size), h2.next hb h2.lt, h3.next hb, h4.next hb h4.lt, h5.next hb h5.lt, h6.next hb⟩
def RsRel (w0 : World) (en : Nat) (r : R (Sm × List Tk)) (gk : Nat) (wr : World) : Prop :=
  ∃ v ts c, RsS w0 en v ts c wr ∧ gk = ts.length + 1 ∧ ts.length ≤ 100000 ∧ (∀ t ∈ ts, TkOk 100000 t) ∧ (c.out = [] → c.app = false) ∧ c.asg.length ≤ 32 ∧ c.words.length ≤ 32 ∧ r = simS en ts c
theorem RsRel.intro0 (w : World) (v : Value) (ts : List Tk) (en : Nat) (h : RdK w v ts) (hl : ts.length ≤ 100000) (ht : ∀ t ∈ ts, TkOk 100000 t) :
    RsRel w en (simS en ts smE) (ts.length + 1) ((((w.alloc (.cells #[v, .int .i64 (en : Int)] 96)).alloc (.cells zSm 109)).alloc (.cells zGm 96)).alloc (.cells zSm 109)) := by
  have b1 := (Below.refl w.heap.size w).alloc (Nat.le_refl _) (.cells #[v, .int .i64 (en : Int)] 96)
  have b2 := b1.alloc (by (try simp); (try omega)) (.cells zSm 109)
  have b3 := b2.alloc (by (try simp); (try omega)) (.cells zGm 96)
  have b4 := b3.alloc (by (try simp); (try omega)) (.cells zSm 109)
  have s1 : (w.alloc (.cells #[v, .int .i64 (en : Int)] 96)).heap.size = w.heap.size + 1 := by simp
  have s2 : ((w.alloc (.cells #[v, .int .i64 (en : Int)] 96)).alloc (.cells zSm 109)).heap.size = w.heap.size + 1 + 1 := by simp
  have s3 : (((w.alloc (.cells #[v, .int .i64 (en : Int)] 96)).alloc (.cells zSm 109)).alloc (.cells zGm 96)).heap.size = w.heap.size + 1 + 1 + 1 := by simp
  have k1 := Blk.new w 96 #[v, .int .i64 (en : Int)]
  have k2 := Blk.new (w.alloc (.cells #[v, .int .i64 (en : Int)] 96)) 109 zSm
  have k3 := Blk.new ((w.alloc (.cells #[v, .int .i64 (en : Int)] 96)).alloc (.cells zSm 109)) 96 zGm
  have k4 := Blk.new (((w.alloc (.cells #[v, .int .i64 (en : Int)] 96)).alloc (.cells zSm 109)).alloc (.cells zGm 96)) 109 zSm
  rw [s1] at k2
  rw [s2] at k3
  rw [s3] at k4
  exact ⟨v, ts, smE, ⟨b4, ((k1.alloc _).alloc _).alloc _, h.next b4, (k2.alloc _).alloc _, k3.alloc _, SmB.new k4 (nwp_nil _) (nwp_nil _)⟩, rfl, hl, ht, fun _ => rfl, Nat.zero_le _, Nat.zero_le _, rfl⟩
/-- What simple leaves. -/
def RsP (w : World) (en : Nat) (r : R (Sm × List Tk)) (e : Ending) (w' : World) : Prop :=
  match r with
  | .ok (c, ts) => ∃ (u : V4) (v : Value), e = .returned (.tuple #[.agg #[u.a, u.b, u.c, u.d, .bool c.app], .agg #[v, .int .i64 (en : Int)], .int .i64 0, .int .i64 0]) ∧ NSp 51 39 112 w' u c ∧ RdK w' v ts ∧ Below w.heap.size w w'
  | .err p er => ∃ (Aa Ab Ai Ao Av : Option Addr) (na nb ni no nv ka kb ki ko kv : Nat) (ap : Bool), e = .returned (.tuple #[.agg #[.slice Aa na ka, .slice Ab nb kb, .slice Ai ni ki, .slice Ao no ko, .bool ap], .agg #[.slice Av nv kv, .int .i64 (en : Int)], .int .i64 er, .int .i64 (p : Int)]) ∧ er ≠ 0 ∧ Below w.heap.size w w'
/-- The contract of simple. -/
def Said81 : Prop := ∀ (w : World) (v : Value) (ts : List Tk) (en : Nat), RdK w v ts → ts.length ≤ 100000 → (∀ t ∈ ts, TkOk 100000 t) → Calls Try.prog 81 #[.agg #[v, .int .i64 (en : Int)]] w (RsP w en (simS en ts smE))
theorem RsS.parts {w0 : World} {en : Nat} {v : Value} {ts : List Tk} {c : Sm} {wr : World} (h : RsS w0 en v ts c wr) : ∃ A k, v = .slice A ts.length k ∧ ts.length ≤ k := RowRd.form h.2.2.1
/-- The round's end: the box of the tokens is stored anew. -/
theorem RsS.box {w0 : World} {en : Nat} {v v' : Value} {ts ts' : List Tk} {c : Sm} {w : World} (h : RsS w0 en v ts c w) (hv : RdK w v' ts') : RsS w0 en v' ts' c ((w.setCell ⟨w0.heap.size, 0, none⟩ v').setCell ⟨w0.heap.size, 1, none⟩ (.int .i64 (en : Int))) := by
  obtain ⟨h1, h2, h3, h4, h5, h6⟩ := h
  have k1 : Kept [96] w (w.setCell ⟨w0.heap.size, 0, none⟩ v') := Kept.of_blk [96] h2 (only_setCell (p := ⟨w0.heap.size, 0, none⟩) (World.grownBy.refl w (some w0.heap.size)) (.inl rfl) v') rfl
  have h2' := h2.set_ 0 v'
  have k2 : Kept [96] (w.setCell ⟨w0.heap.size, 0, none⟩ v') _ := Kept.of_blk [96] h2' (only_setCell (p := ⟨w0.heap.size, 1, none⟩) (World.grownBy.refl _ (some w0.heap.size)) (.inl rfl) (.int .i64 (en : Int))) rfl
  have k := k1.trans k2
  refine ⟨(h1.setCell (p := ⟨w0.heap.size, 0, none⟩) (Nat.le_refl _) _).setCell (p := ⟨w0.heap.size, 1, none⟩) (Nat.le_refl _) _, blk_cast (h2'.set_ 1 _) rfl, hv.keep k rfl rfl, h4.keep k rfl, ?_, h6.keep k rfl rfl rfl rfl⟩
  exact (h5.far (p := ⟨w0.heap.size, 0, none⟩) (by (try simp); (try omega)) _).far (p := ⟨w0.heap.size, 1, none⟩) (by (try simp); (try omega)) _
/-- The word behind < is stored. -/
theorem RsS.inn {w0 : World} {en : Nat} {v : Value} {ts : List Tk} {c : Sm} {w : World} (h : RsS w0 en v ts c w) {u : Value} {W : Wd} (hu : NWp 51 w u W) : RsS w0 en v ts { c with inn := W } (w.setCell ⟨w0.heap.size + 1 + 1 + 1, 2, none⟩ u) := by
  obtain ⟨h1, h2, h3, h4, h5, h6⟩ := h
  obtain ⟨va, vb, vi, vo, B, ra, rb, ri, ro⟩ := h6
  have k : Kept [109] w (w.setCell ⟨w0.heap.size + 1 + 1 + 1, 2, none⟩ u) := Kept.of_blk [109] B (only_setCell (p := ⟨w0.heap.size + 1 + 1 + 1, 2, none⟩) (World.grownBy.refl w (some (w0.heap.size + 1 + 1 + 1))) (.inl rfl) u) rfl
  exact ⟨h1.setCell (p := ⟨w0.heap.size + 1 + 1 + 1, 2, none⟩) (by (try simp); (try omega)) _, h2.keep k rfl, h3.keep k rfl rfl, h4.far (p := ⟨w0.heap.size + 1 + 1 + 1, 2, none⟩) (by (try simp); (try omega)) _, h5.keep k rfl, ⟨va, vb, u, vo, blk_cast (B.set_ 2 u) rfl, ra.keep k rfl (fun _ _ h => NAp.keep h k rfl), rb.keep k rfl (fun _ _ h => NWp.keep h k rfl), hu.keep k rfl, ro.keep k rfl⟩⟩
/-- The word behind > or >> is stored. -/
theorem RsS.outt {w0 : World} {en : Nat} {v : Value} {ts : List Tk} {c : Sm} {w : World} (h : RsS w0 en v ts c w) {u : Value} {W : Wd} (ap : Bool) (hu : NWp 51 w u W) : RsS w0 en v ts { c with out := W, app := ap } ((w.setCell ⟨w0.heap.size + 1 + 1 + 1, 3, none⟩ u).setCell ⟨w0.heap.size + 1 + 1 + 1, 4, none⟩ (.bool ap)) := by
  obtain ⟨h1, h2, h3, h4, h5, h6⟩ := h
  obtain ⟨va, vb, vi, vo, B, ra, rb, ri, ro⟩ := h6
  have k1 : Kept [109] w (w.setCell ⟨w0.heap.size + 1 + 1 + 1, 3, none⟩ u) := Kept.of_blk [109] B (only_setCell (p := ⟨w0.heap.size + 1 + 1 + 1, 3, none⟩) (World.grownBy.refl w (some (w0.heap.size + 1 + 1 + 1))) (.inl rfl) u) rfl
  have B1 := B.set_ 3 u
  have k2 : Kept [109] (w.setCell ⟨w0.heap.size + 1 + 1 + 1, 3, none⟩ u) _ := Kept.of_blk [109] B1 (only_setCell (p := ⟨w0.heap.size + 1 + 1 + 1, 4, none⟩) (World.grownBy.refl _ (some (w0.heap.size + 1 + 1 + 1))) (.inl rfl) (.bool ap)) rfl
  have k := k1.trans k2
  exact ⟨(h1.setCell (p := ⟨w0.heap.size + 1 + 1 + 1, 3, none⟩) (by (try simp); (try omega)) _).setCell (p := ⟨w0.heap.size + 1 + 1 + 1, 4, none⟩) (by (try simp); (try omega)) _, h2.keep k rfl, h3.keep k rfl rfl, (h4.far (p := ⟨w0.heap.size + 1 + 1 + 1, 3, none⟩) (by (try simp); (try omega)) _).far (p := ⟨w0.heap.size + 1 + 1 + 1, 4, none⟩) (by (try simp); (try omega)) _, h5.keep k rfl, ⟨va, vb, vi, u, blk_cast (B1.set_ 4 (.bool ap)) rfl, ra.keep k rfl (fun _ _ h => NAp.keep h k rfl), rb.keep k rfl (fun _ _ h => NWp.keep h k rfl), ri.keep k rfl, hu.keep k rfl⟩⟩
end Go.Proofs.Ytiddchpkmcncdaa
/- Words for memory: the state of the reference's simple, step by step. -/
namespace Go.Proofs.Ytiddchpkmcncdaa
open Go.RowKit
set_option linter.unusedSimpArgs false
set_option linter.unusedVariables false
/-- The cells of the box and of the command. -/
theorem RsS.cells {w0 : World} {en : Nat} {v : Value} {ts : List Tk} {c : Sm} {w : World} (h : RsS w0 en v ts c w) : ∃ Aa ka Ab kb Ai ki Ao ko, w.cell? ⟨w0.heap.size, 0, none⟩ = some v ∧ w.cell? ⟨w0.heap.size, 1, none⟩ = some (.int .i64 (en : Int)) ∧ w.frozen? ⟨w0.heap.size, 0, none⟩ = false ∧ w.frozen? ⟨w0.heap.size, 1, none⟩ = false ∧
    w.cell? ⟨w0.heap.size + 1 + 1 + 1, 0, none⟩ = some (.slice Aa c.asg.length ka) ∧ w.cell? ⟨w0.heap.size + 1 + 1 + 1, 1, none⟩ = some (.slice Ab c.words.length kb) ∧ w.cell? ⟨w0.heap.size + 1 + 1 + 1, 2, none⟩ = some (.slice Ai c.inn.length ki) ∧ w.cell? ⟨w0.heap.size + 1 + 1 + 1, 3, none⟩ = some (.slice Ao c.out.length ko) ∧ w.cell? ⟨w0.heap.size + 1 + 1 + 1, 4, none⟩ = some (.bool c.app) ∧
    (∀ j, w.frozen? ⟨w0.heap.size + 1 + 1 + 1, j, none⟩ = false) := by
  obtain ⟨h1, h2, h3, h4, h5, h6⟩ := h
  obtain ⟨va, vb, vi, vo, B, ra, rb, ri, ro⟩ := h6
  obtain ⟨Aa, ka, rfl, _⟩ := RowRd.form ra.rd
  obtain ⟨Ab, kb, rfl, _⟩ := RowRd.form rb.rd
  obtain ⟨Ai, ki, rfl, _⟩ := Rd.form ri
  obtain ⟨Ao, ko, rfl, _⟩ := Rd.form ro
  exact ⟨Aa, ka, Ab, kb, Ai, ki, Ao, ko, h2.cell 0, h2.cell 1, h2.frozen 0, h2.frozen 1, B.cell 0, B.cell 1, B.cell 2, B.cell 3, B.cell 4, B.frozen⟩
/-- Behind the copying of the results. -/
theorem RsS.done {w0 : World} {en : Nat} {v : Value} {ts : List Tk} {c : Sm} {w : World} (h : RsS w0 en v ts c w) {a b i o : Value} (y0 : w.cell? ⟨w0.heap.size + 1 + 1 + 1, 0, none⟩ = some a) (y1 : w.cell? ⟨w0.heap.size + 1 + 1 + 1, 1, none⟩ = some b) (y2 : w.cell? ⟨w0.heap.size + 1 + 1 + 1, 2, none⟩ = some i) (y3 : w.cell? ⟨w0.heap.size + 1 + 1 + 1, 3, none⟩ = some o) :
    NSp 51 39 112 (((((((w.setCell ⟨w0.heap.size + 1, 0, none⟩ a).setCell ⟨w0.heap.size + 1, 1, none⟩ b).setCell ⟨w0.heap.size + 1, 2, none⟩ i).setCell ⟨w0.heap.size + 1, 3, none⟩ o).setCell ⟨w0.heap.size + 1, 4, none⟩ (.bool c.app)).setCell ⟨w0.heap.size + 1 + 1, 0, none⟩ v).setCell ⟨w0.heap.size + 1 + 1, 1, none⟩ (.int .i64 (en : Int))).drew ⟨a, b, i, o⟩ c ∧ RdK (((((((w.setCell ⟨w0.heap.size + 1, 0, none⟩ a).setCell ⟨w0.heap.size + 1, 1, none⟩ b).setCell ⟨w0.heap.size + 1, 2, none⟩ i).setCell ⟨w0.heap.size + 1, 3, none⟩ o).setCell ⟨w0.heap.size + 1, 4, none⟩ (.bool c.app)).setCell ⟨w0.heap.size + 1 + 1, 0, none⟩ v).setCell ⟨w0.heap.size + 1 + 1, 1, none⟩ (.int .i64 (en : Int))).drew v ts ∧ Below w0.heap.size w0 (((((((w.setCell ⟨w0.heap.size + 1, 0, none⟩ a).setCell ⟨w0.heap.size + 1, 1, none⟩ b).setCell ⟨w0.heap.size + 1, 2, none⟩ i).setCell ⟨w0.heap.size + 1, 3, none⟩ o).setCell ⟨w0.heap.size + 1, 4, none⟩ (.bool c.app)).setCell ⟨w0.heap.size + 1 + 1, 0, none⟩ v).setCell ⟨w0.heap.size + 1 + 1, 1, none⟩ (.int .i64 (en : Int))).drew ∧ Blk (((((((w.setCell ⟨w0.heap.size + 1, 0, none⟩ a).setCell ⟨w0.heap.size + 1, 1, none⟩ b).setCell ⟨w0.heap.size + 1, 2, none⟩ i).setCell ⟨w0.heap.size + 1, 3, none⟩ o).setCell ⟨w0.heap.size + 1, 4, none⟩ (.bool c.app)).setCell ⟨w0.heap.size + 1 + 1, 0, none⟩ v).setCell ⟨w0.heap.size + 1 + 1, 1, none⟩ (.int .i64 (en : Int))).drew (w0.heap.size + 1) 109 #[a, b, i, o, .bool c.app] ∧ Blk (((((((w.setCell ⟨w0.heap.size + 1, 0, none⟩ a).setCell ⟨w0.heap.size + 1, 1, none⟩ b).setCell ⟨w0.heap.size + 1, 2, none⟩ i).setCell ⟨w0.heap.size + 1, 3, none⟩ o).setCell ⟨w0.heap.size + 1, 4, none⟩ (.bool c.app)).setCell ⟨w0.heap.size + 1 + 1, 0, none⟩ v).setCell ⟨w0.heap.size + 1 + 1, 1, none⟩ (.int .i64 (en : Int))).drew (w0.heap.size + 1 + 1) 96 #[v, .int .i64 (en : Int)] := by
  obtain ⟨h1, h2, h3, h4, h5, h6⟩ := h
  obtain ⟨va, vb, vi, vo, B, ra, rb, ri, ro⟩ := h6
  have e0 := (B.cell 0).symm.trans y0
  have e1 := (B.cell 1).symm.trans y1
  have e2 := (B.cell 2).symm.trans y2
  have e3 := (B.cell 3).symm.trans y3
  simp at e0 e1 e2 e3
  subst e0 e1 e2 e3
  have st : ∀ (L : List TypeId) (x : World) (g j : Nat) (t : TypeId) (cs : Array Value) (u : Value), Blk x g t cs → L.contains t = true → Kept L x (x.setCell ⟨g, j, none⟩ u) := fun L x g j t cs u hb hL => Kept.of_blk L hb (only_setCell (p := ⟨g, j, none⟩) (World.grownBy.refl x (some g)) (.inl rfl) u) hL
  have m0 := h4.set_ 0 va
  have m1 := m0.set_ 1 vb
  have m2 := m1.set_ 2 vi
  have m3 := m2.set_ 3 vo
  have m4 := m3.set_ 4 (.bool c.app)
  have k4 : Kept [109, 96] w _ := ((((st [109, 96] _ _ 0 _ _ va h4 rfl).trans (st [109, 96] _ _ 1 _ _ vb m0 rfl)).trans (st [109, 96] _ _ 2 _ _ vi m1 rfl)).trans (st [109, 96] _ _ 3 _ _ vo m2 rfl)).trans (st [109, 96] _ _ 4 _ _ (.bool c.app) m3 rfl)
  have n5 := ((((h5.far (p := ⟨w0.heap.size + 1, 0, none⟩) (by simp) va).far (p := ⟨w0.heap.size + 1, 1, none⟩) (by simp) vb).far (p := ⟨w0.heap.size + 1, 2, none⟩) (by simp) vi).far (p := ⟨w0.heap.size + 1, 3, none⟩) (by simp) vo).far (p := ⟨w0.heap.size + 1, 4, none⟩) (by simp) (.bool c.app)
  have n6 := n5.set_ 0 v
  have n7 := n6.set_ 1 (.int .i64 (en : Int))
  have k7 := ((k4.trans (st [109, 96] _ _ 0 _ _ v n5 rfl)).trans (st [109, 96] _ _ 1 _ _ (.int .i64 (en : Int)) n6 rfl)).drew
  refine ⟨⟨(ra.rd).keep k7 rfl (fun _ _ h => NAp.keep h k7 rfl), (rb.rd).keep k7 rfl (fun _ _ h => NWp.keep h k7 rfl), ri.keep k7 rfl, ro.keep k7 rfl⟩, h3.keep k7 rfl rfl, ?_, ?_, blk_cast n7.drew rfl⟩
  · exact (((((((h1.setCell (p := ⟨w0.heap.size + 1, 0, none⟩) (by simp) _).setCell (p := ⟨w0.heap.size + 1, 1, none⟩) (by simp) _).setCell (p := ⟨w0.heap.size + 1, 2, none⟩) (by simp) _).setCell (p := ⟨w0.heap.size + 1, 3, none⟩) (by simp) _).setCell (p := ⟨w0.heap.size + 1, 4, none⟩) (by simp) _).setCell (p := ⟨w0.heap.size + 1 + 1, 0, none⟩) (by (try simp); (try omega)) _).setCell (p := ⟨w0.heap.size + 1 + 1, 1, none⟩) (by (try simp); (try omega)) _).drew
  · exact blk_cast ((m4.far (p := ⟨w0.heap.size + 1 + 1, 0, none⟩) (by simp) _).far (p := ⟨w0.heap.size + 1 + 1, 1, none⟩) (by simp) _).drew rfl
/-- Behind the copying of the results. -/
theorem RsS.done0 {w0 : World} {en : Nat} {v : Value} {ts : List Tk} {c : Sm} {w : World} (h : RsS w0 en v ts c w) {a b i o : Value} (y0 : w.cell? ⟨w0.heap.size + 1 + 1 + 1, 0, none⟩ = some a) (y1 : w.cell? ⟨w0.heap.size + 1 + 1 + 1, 1, none⟩ = some b) (y2 : w.cell? ⟨w0.heap.size + 1 + 1 + 1, 2, none⟩ = some i) (y3 : w.cell? ⟨w0.heap.size + 1 + 1 + 1, 3, none⟩ = some o) :
    NSp 51 39 112 (((((((w.setCell ⟨w0.heap.size + 1, 0, none⟩ a).setCell ⟨w0.heap.size + 1, 1, none⟩ b).setCell ⟨w0.heap.size + 1, 2, none⟩ i).setCell ⟨w0.heap.size + 1, 3, none⟩ o).setCell ⟨w0.heap.size + 1, 4, none⟩ (.bool c.app)).setCell ⟨w0.heap.size + 1 + 1, 0, none⟩ v).setCell ⟨w0.heap.size + 1 + 1, 1, none⟩ (.int .i64 (en : Int))) ⟨a, b, i, o⟩ c ∧ RdK (((((((w.setCell ⟨w0.heap.size + 1, 0, none⟩ a).setCell ⟨w0.heap.size + 1, 1, none⟩ b).setCell ⟨w0.heap.size + 1, 2, none⟩ i).setCell ⟨w0.heap.size + 1, 3, none⟩ o).setCell ⟨w0.heap.size + 1, 4, none⟩ (.bool c.app)).setCell ⟨w0.heap.size + 1 + 1, 0, none⟩ v).setCell ⟨w0.heap.size + 1 + 1, 1, none⟩ (.int .i64 (en : Int))) v ts ∧ Below w0.heap.size w0 (((((((w.setCell ⟨w0.heap.size + 1, 0, none⟩ a).setCell ⟨w0.heap.size + 1, 1, none⟩ b).setCell ⟨w0.heap.size + 1, 2, none⟩ i).setCell ⟨w0.heap.size + 1, 3, none⟩ o).setCell ⟨w0.heap.size + 1, 4, none⟩ (.bool c.app)).setCell ⟨w0.heap.size + 1 + 1, 0, none⟩ v).setCell ⟨w0.heap.size + 1 + 1, 1, none⟩ (.int .i64 (en : Int))) ∧ Blk (((((((w.setCell ⟨w0.heap.size + 1, 0, none⟩ a).setCell ⟨w0.heap.size + 1, 1, none⟩ b).setCell ⟨w0.heap.size + 1, 2, none⟩ i).setCell ⟨w0.heap.size + 1, 3, none⟩ o).setCell ⟨w0.heap.size + 1, 4, none⟩ (.bool c.app)).setCell ⟨w0.heap.size + 1 + 1, 0, none⟩ v).setCell ⟨w0.heap.size + 1 + 1, 1, none⟩ (.int .i64 (en : Int))) (w0.heap.size + 1) 109 #[a, b, i, o, .bool c.app] ∧ Blk (((((((w.setCell ⟨w0.heap.size + 1, 0, none⟩ a).setCell ⟨w0.heap.size + 1, 1, none⟩ b).setCell ⟨w0.heap.size + 1, 2, none⟩ i).setCell ⟨w0.heap.size + 1, 3, none⟩ o).setCell ⟨w0.heap.size + 1, 4, none⟩ (.bool c.app)).setCell ⟨w0.heap.size + 1 + 1, 0, none⟩ v).setCell ⟨w0.heap.size + 1 + 1, 1, none⟩ (.int .i64 (en : Int))) (w0.heap.size + 1 + 1) 96 #[v, .int .i64 (en : Int)] := by
  obtain ⟨h1, h2, h3, h4, h5, h6⟩ := h
  obtain ⟨va, vb, vi, vo, B, ra, rb, ri, ro⟩ := h6
  have e0 := (B.cell 0).symm.trans y0
  have e1 := (B.cell 1).symm.trans y1
  have e2 := (B.cell 2).symm.trans y2
  have e3 := (B.cell 3).symm.trans y3
  simp at e0 e1 e2 e3
  subst e0 e1 e2 e3
  have st : ∀ (L : List TypeId) (x : World) (g j : Nat) (t : TypeId) (cs : Array Value) (u : Value), Blk x g t cs → L.contains t = true → Kept L x (x.setCell ⟨g, j, none⟩ u) := fun L x g j t cs u hb hL => Kept.of_blk L hb (only_setCell (p := ⟨g, j, none⟩) (World.grownBy.refl x (some g)) (.inl rfl) u) hL
  have m0 := h4.set_ 0 va
  have m1 := m0.set_ 1 vb
  have m2 := m1.set_ 2 vi
  have m3 := m2.set_ 3 vo
  have m4 := m3.set_ 4 (.bool c.app)
  have k4 : Kept [109, 96] w _ := ((((st [109, 96] _ _ 0 _ _ va h4 rfl).trans (st [109, 96] _ _ 1 _ _ vb m0 rfl)).trans (st [109, 96] _ _ 2 _ _ vi m1 rfl)).trans (st [109, 96] _ _ 3 _ _ vo m2 rfl)).trans (st [109, 96] _ _ 4 _ _ (.bool c.app) m3 rfl)
  have n5 := ((((h5.far (p := ⟨w0.heap.size + 1, 0, none⟩) (by simp) va).far (p := ⟨w0.heap.size + 1, 1, none⟩) (by simp) vb).far (p := ⟨w0.heap.size + 1, 2, none⟩) (by simp) vi).far (p := ⟨w0.heap.size + 1, 3, none⟩) (by simp) vo).far (p := ⟨w0.heap.size + 1, 4, none⟩) (by simp) (.bool c.app)
  have n6 := n5.set_ 0 v
  have n7 := n6.set_ 1 (.int .i64 (en : Int))
  have k7 := ((k4.trans (st [109, 96] _ _ 0 _ _ v n5 rfl)).trans (st [109, 96] _ _ 1 _ _ (.int .i64 (en : Int)) n6 rfl))
  refine ⟨⟨(ra.rd).keep k7 rfl (fun _ _ h => NAp.keep h k7 rfl), (rb.rd).keep k7 rfl (fun _ _ h => NWp.keep h k7 rfl), ri.keep k7 rfl, ro.keep k7 rfl⟩, h3.keep k7 rfl rfl, ?_, ?_, blk_cast n7 rfl⟩
  · exact (((((((h1.setCell (p := ⟨w0.heap.size + 1, 0, none⟩) (by simp) _).setCell (p := ⟨w0.heap.size + 1, 1, none⟩) (by simp) _).setCell (p := ⟨w0.heap.size + 1, 2, none⟩) (by simp) _).setCell (p := ⟨w0.heap.size + 1, 3, none⟩) (by simp) _).setCell (p := ⟨w0.heap.size + 1, 4, none⟩) (by simp) _).setCell (p := ⟨w0.heap.size + 1 + 1, 0, none⟩) (by (try simp); (try omega)) _).setCell (p := ⟨w0.heap.size + 1 + 1, 1, none⟩) (by (try simp); (try omega)) _)
  · exact blk_cast ((m4.far (p := ⟨w0.heap.size + 1 + 1, 0, none⟩) (by simp) _).far (p := ⟨w0.heap.size + 1 + 1, 1, none⟩) (by simp) _) rfl
theorem simS_dup (en p : Nat) (wd : Wd) (nm o : Bs) (ts : List Tk) (c : Sm) (h : o = [60] ∧ c.inn ≠ [] ∨ (o = [62] ∨ o = [62, 62]) ∧ c.out ≠ []) : simS en (⟨p, o, wd, nm⟩ :: ts) c = .err p 7 := by
  rcases h with ⟨rfl, h⟩ | ⟨rfl | rfl, h⟩
  all_goals
    rw [simS_red en _ _ _ rfl]
    rw [if_pos]
    unfold dupS
    simpa using h
theorem simS_non (en p : Nat) (wd : Wd) (nm o : Bs) (ts : List Tk) (c : Sm) (h : o = [60] ∧ c.inn = [] ∨ (o = [62] ∨ o = [62, 62]) ∧ c.out = []) (hw : ts = [] ∨ ∃ u r, ts = u :: r ∧ u.word = []) : simS en (⟨p, o, wd, nm⟩ :: ts) c = .err (placeS en ts) 30 := by
  have e : (hdT en ts).pos = placeS en ts ∧ (hdT en ts).word.isEmpty = true := by
    rcases hw with rfl | ⟨u, r, rfl, hu⟩
    · exact ⟨rfl, rfl⟩
    · exact ⟨rfl, by show u.word.isEmpty = true; rw [hu]; rfl⟩
  rcases h with ⟨rfl, h⟩ | ⟨rfl | rfl, h⟩
  all_goals
    rw [simS_red en _ _ _ rfl]
    rw [if_neg (by unfold dupS; simp [h]), if_pos e.2, e.1]
theorem cell_far {w : World} {p q : Addr} {u : Value} (h : q.block ≠ p.block) : (w.setCell p u).cell? q = w.cell? q := World.cell?_of_block (Below.heap_setCell w p u q.block h)
theorem simS_lt (en p p' : Nat) (wd wd' : Wd) (nm nm' op' : Bs) (ts : List Tk) (c : Sm) (hi : c.inn = []) (hw : wd' ≠ []) : simS en (⟨p, [60], wd, nm⟩ :: ⟨p', op', wd', nm'⟩ :: ts) c = simS en ts { c with inn := wd' } := by
  rw [simS_red en _ _ _ rfl]
  rw [if_neg (by unfold dupS; simp [hi]), if_neg (by simpa [hdT] using hw)]
  rfl
theorem simS_gt (en p p' : Nat) (o : Bs) (ap : Bool) (ho : o = [62] ∧ ap = false ∨ o = [62, 62] ∧ ap = true) (wd wd' : Wd) (nm nm' op' : Bs) (ts : List Tk) (c : Sm) (hi : c.out = []) (ha : c.app = false) (hw : wd' ≠ []) : simS en (⟨p, o, wd, nm⟩ :: ⟨p', op', wd', nm'⟩ :: ts) c = simS en ts { c with out := wd', app := ap } := by
  rcases ho with ⟨rfl, rfl⟩ | ⟨rfl, rfl⟩
  all_goals
    rw [simS_red en _ _ _ rfl]
    rw [if_neg (by unfold dupS; simp [hi]), if_neg (by simpa [hdT] using hw)]
    unfold redC
    simp [ha, hdT]
theorem RsS.push {w0 W W' w1 : World} {en : Nat} {v : Value} {ts : List Tk} {c c' : Sm} {e size n k : Nat} {va v' : Value} {xs : List Value} {cs : Array Value}
    (h : RsS w0 en v ts c W) (he : e = 112 ∨ e = 39) (r3 : W.ownsRow w0.heap.size e size va n xs) (hb : Below W.heap.size W W') (hk : W'.grownBy w1 va.ownBlock)
    (B1 : Blk w1 (w0.heap.size + 1 + 1 + 1) 109 cs) (hs : SmB 51 39 112 109 w0.heap.size (w0.heap.size + 1 + 1 + 1) c' (w1.setCell ⟨w0.heap.size + 1 + 1 + 1, k, none⟩ v')) :
    RsS w0 en v ts c' (w1.setCell ⟨w0.heap.size + 1 + 1 + 1, k, none⟩ v') := by
  obtain ⟨h1, h2, h3, h4, h5, h6⟩ := h
  have hz := h2.lt
  have K : Kept [e] W w1 := (Kept.of_below _ hb).trans (Kept.of_own [e] (own_next r3 hb) hk (by simp))
  have K2 : Kept [109] w1 (w1.setCell ⟨w0.heap.size + 1 + 1 + 1, k, none⟩ v') := Kept.of_blk [109] B1 (only_setCell (p := ⟨w0.heap.size + 1 + 1 + 1, k, none⟩) (World.grownBy.refl _ _) (.inl rfl) _) rfl
  have cE : ∀ t, t ≠ 112 → t ≠ 39 → [e].contains t = false := fun t a b => by rcases he with rfl | rfl <;> simp [a, b]
  refine ⟨?_, (h2.keep K (cE _ (by decide) (by decide))).keep K2 rfl, (h3.keep K (cE _ (by decide) (by decide)) (cE _ (by decide) (by decide))).keep K2 rfl rfl, (h4.keep K (cE _ (by decide) (by decide))).far (p := ⟨w0.heap.size + 1 + 1 + 1, k, none⟩) (by (try simp); (try omega)) _, (h5.keep K (cE _ (by decide) (by decide))).keep K2 rfl, hs⟩
  exact (below_own (B := w0.heap.size) (h1.trans (hb.mono h1.size)) (own_next r3 hb) hk (Nat.le_refl _) (Nat.le_trans h1.size hb.size)).setCell (p := ⟨w0.heap.size + 1 + 1 + 1, k, none⟩) (by (try simp); (try omega)) _
theorem simS_asg (en p : Nat) (wd : Wd) (nm : Bs) (ts : List Tk) (c : Sm) (hw : wd ≠ []) (hn : nm ≠ []) (hc : c.words = []) : simS en (⟨p, [], wd, nm⟩ :: ts) c = if c.asg.length = 32 then .err p 9 else simS en ts { c with asg := c.asg ++ [⟨nm, valT ⟨p, [], wd, nm⟩⟩] } := by
  rw [simS_word en _ ts c rfl (by simpa using hw)]
  rw [if_pos (by simp [hn, hc])]
  have e : valT ⟨p, [], wd, nm⟩ = valS ⟨p, [], wd, nm⟩ := by unfold valT; rw [if_neg (by simpa using hn)]
  rw [e]
theorem simS_wd (en p : Nat) (wd : Wd) (nm : Bs) (ts : List Tk) (c : Sm) (hw : wd ≠ []) (h : nm = [] ∨ c.words ≠ []) : simS en (⟨p, [], wd, nm⟩ :: ts) c = if c.words.length = 32 then .err p 9 else simS en ts { c with words := c.words ++ [wd] } := by
  rw [simS_word en _ ts c rfl (by simpa using hw)]
  rw [if_neg (by rcases h with h | h <;> simp [h])]
theorem simS_brk (en p : Nat) (o : Bs) (wd : Wd) (nm : Bs) (ts : List Tk) (c : Sm) (h1 : o ≠ [60]) (h2 : o ≠ [62]) (h3 : o ≠ [62, 62]) (hw : wd = []) : simS en (⟨p, o, wd, nm⟩ :: ts) c = if smNone c then .err p 30 else .ok (c, ⟨p, o, wd, nm⟩ :: ts) :=
  simS_stop en _ ts c (by unfold redS; simp [h1, h2, h3]) (by simp [hw])
end Go.Proofs.Ytiddchpkmcncdaa
/- Walks of layer 41: the reference's pipeline. -/
namespace Go.Proofs.Ytiddchpkmcncdaa
open Go.RowKit
set_option linter.unusedSimpArgs false
set_option linter.unusedVariables false
theorem info109r : (Try.prog.info? 109).map (fun i => (i.zero, i.size, i.bytes)) = some (some (.agg #[.slice none 0 0, .slice none 0 0, .slice none 0 0, .slice none 0 0, .bool false]), 5, 104) := by kernel_rfl
/-- The state of pipeline: the tokens left, the stages so far. -/
def PpS (w0 : World) (en : Nat) (v v6 : Value) (ts : List Tk) (a : List Sm) (wr : World) : Prop :=
  Below w0.heap.size w0 wr ∧ Blk wr w0.heap.size 96 #[v, .int .i64 (en : Int)] ∧ RdK wr v ts ∧ Blk wr (w0.heap.size + 1) 96 zGm ∧ RowOwn 109 5 smV (NSp 51 39 112) wr w0.heap.size v6 a
theorem PpS.next {w0 : World} {en : Nat} {v v6 : Value} {ts : List Tk} {a : List Sm} {w w' : World} (h : PpS w0 en v v6 ts a w) (hb : Below w.heap.size w w') : PpS w0 en v v6 ts a w' := by
  obtain ⟨h1, h2, h3, h4, h5⟩ := h
  exact ⟨h1.trans (hb.mono h1.size), h2.next hb h2.lt, h3.next hb, h4.next hb h4.lt, RowOwn.next h5 hb (fun _ _ h => NSp.next h hb)⟩
theorem PpS.box {w0 : World} {en : Nat} {v v6 v' : Value} {ts ts' : List Tk} {a : List Sm} {w : World} (h : PpS w0 en v v6 ts a w) (hv : RdK w v' ts') : PpS w0 en v' v6 ts' a ((w.setCell ⟨w0.heap.size, 0, none⟩ v').setCell ⟨w0.heap.size, 1, none⟩ (.int .i64 (en : Int))) := by
  obtain ⟨h1, h2, h3, h4, h5⟩ := h
  have k1 : Kept [96] w (w.setCell ⟨w0.heap.size, 0, none⟩ v') := Kept.of_blk [96] h2 (only_setCell (p := ⟨w0.heap.size, 0, none⟩) (World.grownBy.refl w (some w0.heap.size)) (.inl rfl) v') rfl
  have h2' := h2.set_ 0 v'
  have k2 : Kept [96] (w.setCell ⟨w0.heap.size, 0, none⟩ v') _ := Kept.of_blk [96] h2' (only_setCell (p := ⟨w0.heap.size, 1, none⟩) (World.grownBy.refl _ (some w0.heap.size)) (.inl rfl) (.int .i64 (en : Int))) rfl
  have k := k1.trans k2
  refine ⟨(h1.setCell (p := ⟨w0.heap.size, 0, none⟩) (Nat.le_refl _) _).setCell (p := ⟨w0.heap.size, 1, none⟩) (Nat.le_refl _) _, blk_cast (h2'.set_ 1 _) rfl, hv.keep k rfl rfl, ?_, RowOwn.keep h5 k rfl (fun _ _ h => NSp.keep h k rfl rfl rfl)⟩
  exact (h4.far (p := ⟨w0.heap.size, 0, none⟩) (by (try simp); (try omega)) _).far (p := ⟨w0.heap.size, 1, none⟩) (by (try simp); (try omega)) _
theorem PpS.push {w0 W W' w1 : World} {en : Nat} {v v6 v' : Value} {ts : List Tk} {a : List Sm} {vs : List V4} {c : Sm} {u : V4} (h : PpS w0 en v v6 ts a W) (h2 : RowW (NSp 51 39 112) W a vs) (h3 : W.ownsRow w0.heap.size 109 5 v6 a.length (rowC smV a vs)) (hb : Below W.heap.size W W') (hk : W'.grownBy w1 v6.ownBlock)
    (hown : w1.ownsRow w0.heap.size 109 5 v' (a.length + 1) (rowC smV a vs ++ smV c u)) (hu : NSp 51 39 112 W' u c) : PpS w0 en v v' ts (a ++ [c]) w1 := by
  obtain ⟨g1, g2, g3, g4, g5⟩ := h
  have K0 : Kept [] W W' := Kept.of_below _ hb
  have K1 : Kept [109] W' w1 := Kept.of_own [109] (own_next h3 hb) hk rfl
  have K : Kept [109] W w1 := (Kept.of_below _ hb).trans K1
  exact ⟨below_own (B := w0.heap.size) (g1.trans (hb.mono g1.size)) (own_next h3 hb) hk (Nat.le_refl _) (Nat.le_trans g1.size hb.size), g2.keep K rfl, g3.keep K rfl rfl, g4.keep K rfl, RowOwn.push h2 hown (fun v x h => NSp.keep h K rfl rfl rfl) (NSp.keep hu K1 rfl rfl rfl)⟩
/-- The tokens left are copied into the result. -/
theorem PpS.done {w0 : World} {en : Nat} {v v6 : Value} {ts : List Tk} {a : List Sm} {w : World} (h : PpS w0 en v v6 ts a w) :
    RowRd 109 smV (NSp 51 39 112) ((w.setCell ⟨w0.heap.size + 1, 0, none⟩ v).setCell ⟨w0.heap.size + 1, 1, none⟩ (.int .i64 (en : Int))) v6 a ∧ RdK ((w.setCell ⟨w0.heap.size + 1, 0, none⟩ v).setCell ⟨w0.heap.size + 1, 1, none⟩ (.int .i64 (en : Int))) v ts ∧
    Below w0.heap.size w0 ((w.setCell ⟨w0.heap.size + 1, 0, none⟩ v).setCell ⟨w0.heap.size + 1, 1, none⟩ (.int .i64 (en : Int))) ∧ Blk ((w.setCell ⟨w0.heap.size + 1, 0, none⟩ v).setCell ⟨w0.heap.size + 1, 1, none⟩ (.int .i64 (en : Int))) (w0.heap.size + 1) 96 #[v, .int .i64 (en : Int)] := by
  obtain ⟨h1, h2, h3, h4, h5⟩ := h
  have k1 : Kept [96] w (w.setCell ⟨w0.heap.size + 1, 0, none⟩ v) := Kept.of_blk [96] h4 (only_setCell (p := ⟨w0.heap.size + 1, 0, none⟩) (World.grownBy.refl w (some (w0.heap.size + 1))) (.inl rfl) v) rfl
  have h4' := h4.set_ 0 v
  have k2 : Kept [96] (w.setCell ⟨w0.heap.size + 1, 0, none⟩ v) _ := Kept.of_blk [96] h4' (only_setCell (p := ⟨w0.heap.size + 1, 1, none⟩) (World.grownBy.refl _ (some (w0.heap.size + 1))) (.inl rfl) (.int .i64 (en : Int))) rfl
  have k := k1.trans k2
  exact ⟨(RowOwn.keep h5 k rfl (fun _ _ h => NSp.keep h k rfl rfl rfl)).rd, h3.keep k rfl rfl, (h1.setCell (p := ⟨w0.heap.size + 1, 0, none⟩) (by (try simp); (try omega)) _).setCell (p := ⟨w0.heap.size + 1, 1, none⟩) (by (try simp); (try omega)) _, blk_cast (h4'.set_ 1 _) rfl⟩
theorem PpS.doneD {w0 : World} {en : Nat} {v v6 : Value} {ts : List Tk} {a : List Sm} {w : World} (h : PpS w0 en v v6 ts a w) :
    RowRd 109 smV (NSp 51 39 112) ((w.setCell ⟨w0.heap.size + 1, 0, none⟩ v).setCell ⟨w0.heap.size + 1, 1, none⟩ (.int .i64 (en : Int))).drew v6 a ∧ RdK ((w.setCell ⟨w0.heap.size + 1, 0, none⟩ v).setCell ⟨w0.heap.size + 1, 1, none⟩ (.int .i64 (en : Int))).drew v ts ∧
    Below w0.heap.size w0 ((w.setCell ⟨w0.heap.size + 1, 0, none⟩ v).setCell ⟨w0.heap.size + 1, 1, none⟩ (.int .i64 (en : Int))).drew ∧ Blk ((w.setCell ⟨w0.heap.size + 1, 0, none⟩ v).setCell ⟨w0.heap.size + 1, 1, none⟩ (.int .i64 (en : Int))).drew (w0.heap.size + 1) 96 #[v, .int .i64 (en : Int)] := by
  obtain ⟨d1, d2, d3, d4⟩ := h.done
  generalize ((w.setCell ⟨w0.heap.size + 1, 0, none⟩ v).setCell ⟨w0.heap.size + 1, 1, none⟩ (.int .i64 (en : Int))) = W at *
  have hb := (Below.refl W.heap.size W).drew
  exact ⟨RowRd.next d1 hb (fun _ _ h => NSp.next h hb), d2.next hb, d3.drew, d4.next hb d4.lt⟩
def PpRel (w0 : World) (en : Nat) (r : R (List Sm × List Tk)) (gk : Nat) (v6 : Value) (wr : World) : Prop :=
  ∃ v ts a, PpS w0 en v v6 ts a wr ∧ a.length + gk = 8 ∧ 0 < gk ∧ ts.length ≤ 100000 ∧ (∀ t ∈ ts, TkOk 100000 t) ∧ r = pipS en gk ts a
theorem PpRel.intro0 (w : World) (v : Value) (ts : List Tk) (en : Nat) (h : RdK w v ts) (hl : ts.length ≤ 100000) (ht : ∀ t ∈ ts, TkOk 100000 t) :
    PpRel w en (pipS en 8 ts []) 8 (.slice none 0 0) ((w.alloc (.cells #[v, .int .i64 (en : Int)] 96)).alloc (.cells zGm 96)) := by
  have b1 := (Below.refl w.heap.size w).alloc (Nat.le_refl _) (.cells #[v, .int .i64 (en : Int)] 96)
  have b2 := b1.alloc (by (try simp); (try omega)) (.cells zGm 96)
  have s1 : (w.alloc (.cells #[v, .int .i64 (en : Int)] 96)).heap.size = w.heap.size + 1 := by simp
  have k1 := Blk.new w 96 #[v, .int .i64 (en : Int)]
  have k2 := Blk.new (w.alloc (.cells #[v, .int .i64 (en : Int)] 96)) 96 zGm
  rw [s1] at k2
  exact ⟨v, ts, [], ⟨b2, k1.alloc _, h.next b2, k2, RowOwn.nil⟩, rfl, by decide, hl, ht, rfl⟩
/-- What pipeline leaves. -/
def PpP (w : World) (en : Nat) (r : R (List Sm × List Tk)) (e : Ending) (w' : World) : Prop :=
  match r with
  | .ok (q, ts) => ∃ v6 v, e = .returned (.tuple #[v6, .agg #[v, .int .i64 (en : Int)], .int .i64 0, .int .i64 0]) ∧ RowRd 109 smV (NSp 51 39 112) w' v6 q ∧ RdK w' v ts ∧ Below w.heap.size w w'
  | .err p er => ∃ (A : Option Addr) (n k : Nat), e = .returned (.tuple #[.slice none 0 0, .agg #[.slice A n k, .int .i64 (en : Int)], .int .i64 er, .int .i64 (p : Int)]) ∧ er ≠ 0 ∧ Below w.heap.size w w'
theorem pipS_err (en n : Nat) (ts : List Tk) (a : List Sm) (p : Nat) (er : Int) (h : simS en ts smE = .err p er) : pipS en (n + 1) ts a = .err p er := by
  unfold pipS; rw [h]
theorem pipS_nil (en n : Nat) (ts : List Tk) (a : List Sm) (c : Sm) (h : simS en ts smE = .ok (c, [])) : pipS en (n + 1) ts a = .ok (a ++ [c], []) := by
  conv => lhs; unfold pipS
  rw [h]
theorem pipS_pipe (en n : Nat) (ts r : List Tk) (a : List Sm) (c : Sm) (t : Tk) (h : simS en ts smE = .ok (c, t :: r)) (ho : t.op = [124]) : pipS en (n + 1) ts a = if n = 0 then .err t.pos 9 else pipS en n r (a ++ [c]) := by
  conv => lhs; unfold pipS
  rw [h]
  simp [ho]
theorem pipS_out (en n : Nat) (ts r : List Tk) (a : List Sm) (c : Sm) (h : simS en ts smE = .ok (c, r)) (ho : nextS r ≠ [124]) : pipS en (n + 1) ts a = .ok (a ++ [c], r) := by
  cases r with
  | nil => exact pipS_nil en n ts a c h
  | cons t r =>
    conv => lhs; unfold pipS
    rw [h]
    simp only [nextS] at ho
    simp [ho]
/-- The contract of pipeline. -/
def Said44 : Prop := ∀ (w : World) (v : Value) (ts : List Tk) (en : Nat), RdK w v ts → ts.length ≤ 100000 → (∀ t ∈ ts, TkOk 100000 t) → Calls Try.prog 44 #[.agg #[v, .int .i64 (en : Int)]] w (PpP w en (pipS en 8 ts []))
set_option maxRecDepth 100000 in
set_option maxHeartbeats 16000000 in
theorem pipeline_ref (h81 : Said81) (w : World) (v : Value) (ts : List Tk) (en : Nat) (h : RdK w v ts) (hl : ts.length ≤ 100000) (ht : ∀ t ∈ ts, TkOk 100000 t) :
    Calls Try.prog 44 #[.agg #[v, .int .i64 (en : Int)]] w (PpP w en (pipS en 8 ts [])) := by
  obtain ⟨js, hjs, hjs0, hjs1, hjs2⟩ := info_parts info109r
  have h0 := PpRel.intro0 w v ts en h hl ht
  generalize pipS en 8 ts [] = r at *
  clear h ht hl
  go_enter Try.func44, Try.ntmps44
  go_wp2
  go_loopg [6] 8 (fun gk v6 wr => PpRel w en r gk v6 wr)
  case atStart => exact h0
  case round =>
    clear h0
    obtain ⟨v, ts, a, hs, hgk, hg0, hl, ht, hr⟩ := hrel
    obtain ⟨m, rfl⟩ : ∃ m, gk = m + 1 := ⟨gk - 1, by omega⟩
    obtain ⟨A0, k0, rfl, hk0⟩ := RowRd.form hs.2.2.1
    have HSM := Lib.hid (h81 wr _ ts en hs.2.2.1 hl ht)
    have HS := Lib.hid hs
    have x0 := hs.2.1.cell 0
    have x1 := hs.2.1.cell 1
    have fx0 := hs.2.1.frozen 0
    have fx1 := hs.2.1.frozen 1
    simp only [List.getElem?_toArray, List.getElem?_cons_zero, List.getElem?_cons_succ] at x0 x1
    obtain ⟨rs, hrs⟩ : ∃ rs, simS en ts smE = rs := ⟨_, rfl⟩
    rw [hrs] at HSM
    cases rs with
    | err p er =>
      have HR := Lib.hid (hr.trans (pipS_err en m ts a p er hrs))
      clear hs hr ht hrs
      go_upto_region 3 with (go_at_call 81; refine HSM.out.mono ?_; rintro e w1 ⟨Aa, Ab, Ai, Ao, Av, na, nb, ni, no, nv, ka, kb', ki, ko, kv, ap, rfl, hne, kb⟩)
      have e1 : (er == 0) = false := beq_false_of_ne hne
      have e2 : (er != 0) = true := by rw [bne, e1]; rfl
      have HNE := Lib.hid hne
      have hBb := (kb.alloc kb.size (.cells #[.slice Aa na ka, .slice Ab nb kb', .slice Ai ni ki, .slice Ao no ko, .bool ap] 109)).alloc (by have := kb.size; simp; omega) (.cells #[.slice Av nv kv, .int .i64 (en : Int)] 96)
      have HSb := Lib.hid (HS.out.next hBb)
      clear HS x0 x1 fx0 fx1 kb hBb hne HSM
      generalize ((w1.alloc (.cells #[.slice Aa na ka, .slice Ab nb kb', .slice Ai ni ki, .slice Ao no ko, .bool ap] 109)).alloc (.cells #[.slice Av nv kv, .int .i64 (en : Int)] 96)) = wb at *
      have x0 : wb.cell? ⟨w.heap.size, 0, none⟩ = some (.slice A0 ts.length k0) := HSb.out.2.1.cell 0
      have x1 : wb.cell? ⟨w.heap.size, 1, none⟩ = some (.int .i64 (en : Int)) := HSb.out.2.1.cell 1
      have z0 : wb.cell? ⟨w.heap.size + 1, 0, none⟩ = some (.slice none 0 0) := HSb.out.2.2.2.1.cell 0
      have z1 : wb.cell? ⟨w.heap.size + 1, 1, none⟩ = some (.int .i64 0) := HSb.out.2.2.2.1.cell 1
      have fz0 := HSb.out.2.2.2.1.frozen 0
      have fz1 := HSb.out.2.2.2.1.frozen 1
      go_wp2
      go_region
      obtain ⟨d1, d2, d3, d4⟩ := HSb.out.doneD
      generalize ((wb.setCell ⟨w.heap.size + 1, 0, none⟩ (.slice A0 ts.length k0)).setCell ⟨w.heap.size + 1, 1, none⟩ (.int .i64 (en : Int))).drew = wz at d1 d2 d3 d4 ⊢
      have r0 := d4.cell 0
      have r1 := d4.cell 1
      simp at r0 r1
      go_wp2
      refine bodyPost_ret (v := .tuple #[.slice none 0 0, .agg #[.slice A0 ts.length k0, .int .i64 (en : Int)], .int .i64 er, .int .i64 (p : Int)]) (by simp [results, Try.results44, go_sem, r0, r1]) rfl ?_
      rw [HR.out]
      exact ⟨_, _, _, rfl, HNE.out, d3⟩
    | ok ct =>
      obtain ⟨c, ts1⟩ := ct
      have hsuf := (simS_suf en ts.length ts smE c ts1 (Nat.le_refl _) hrs).1
      have hl1 : ts1.length ≤ 100000 := Nat.le_trans hsuf.length_le hl
      have HT1 := Lib.hid (show ∀ t ∈ ts1, TkOk 100000 t from fun t h => ht t (hsuf.subset h))
      obtain ⟨vs, hvs, hown⟩ := hs.2.2.2.2
      obtain ⟨Ga, ca, rfl, hca⟩ := own_len hown
      have HVS := Lib.hid hvs
      have HO := Lib.hid hown
      have HRS := Lib.hid hrs
      have HR := Lib.hid hr
      have hwz : w.heap.size ≤ wr.heap.size := hs.1.size
      clear hs hr ht hrs hsuf hvs hown
      go_upto_region 5 with (go_at_call 81; refine HSM.out.mono ?_; rintro e w1 ⟨u, v1, rfl, hns, hrd, kb⟩; obtain ⟨A1, k1, rfl, hk1⟩ := RowRd.form hrd; obtain ⟨ua, ub, uc, ud⟩ := u; obtain ⟨Aa, ka, rfl, _⟩ := RowRd.form hns.1; obtain ⟨Ab, kb', rfl, _⟩ := RowRd.form hns.2.1; obtain ⟨Ai, ki, rfl, _⟩ := Rd.form hns.2.2.1; obtain ⟨Ao, ko, rfl, _⟩ := Rd.form hns.2.2.2)
      have hBb := (kb.alloc kb.size (.cells #[.slice Aa c.asg.length ka, .slice Ab c.words.length kb', .slice Ai c.inn.length ki, .slice Ao c.out.length ko, .bool c.app] 109)).alloc (by have := kb.size; simp; omega) (.cells #[.slice A1 ts1.length k1, .int .i64 (en : Int)] 96)
      have HBb := Lib.hid hBb
      have hq := ((Below.refl w1.heap.size w1).alloc (Nat.le_refl _) (.cells #[.slice Aa c.asg.length ka, .slice Ab c.words.length kb', .slice Ai c.inn.length ki, .slice Ao c.out.length ko, .bool c.app] 109)).alloc (by simp) (.cells #[.slice A1 ts1.length k1, .int .i64 (en : Int)] 96)
      have HSb := Lib.hid (HS.out.next hBb)
      have HNS := Lib.hid (hns.next hq)
      have HRD := Lib.hid (hrd.next hq)
      have hT := (Blk.new w1 109 #[.slice Aa c.asg.length ka, .slice Ab c.words.length kb', .slice Ai c.inn.length ki, .slice Ao c.out.length ko, .bool c.app]).alloc (.cells #[.slice A1 ts1.length k1, .int .i64 (en : Int)] 96)
      have hT2 := Blk.new (w1.alloc (.cells #[.slice Aa c.asg.length ka, .slice Ab c.words.length kb', .slice Ai c.inn.length ki, .slice Ao c.out.length ko, .bool c.app] 109)) 96 #[.slice A1 ts1.length k1, .int .i64 (en : Int)]
      rw [show (w1.alloc (.cells #[.slice Aa c.asg.length ka, .slice Ab c.words.length kb', .slice Ai c.inn.length ki, .slice Ao c.out.length ko, .bool c.app] 109)).heap.size = w1.heap.size + 1 by simp] at hT2
      have HVSb := Lib.hid (RowW.imp HVS.out (fun v x h => NSp.next h hBb))
      have HOb := Lib.hid (own_next HO.out hBb)
      have HT := Lib.hid hT
      have HT2 := Lib.hid hT2
      have hwz1 : w.heap.size ≤ w1.heap.size := by have := kb.size; omega
      clear HS x0 x1 fx0 fx1 kb hBb hq hns hrd hT hT2 HSM HVS HO HBb
      generalize ((w1.alloc (.cells #[.slice Aa c.asg.length ka, .slice Ab c.words.length kb', .slice Ai c.inn.length ki, .slice Ao c.out.length ko, .bool c.app] 109)).alloc (.cells #[.slice A1 ts1.length k1, .int .i64 (en : Int)] 96)) = wb at *
      generalize w1.heap.size = tb at *
      have t0 : wb.cell? ⟨tb, 0, none⟩ = some (.slice Aa c.asg.length ka) := HT.out.cell 0
      have t1 : wb.cell? ⟨tb, 1, none⟩ = some (.slice Ab c.words.length kb') := HT.out.cell 1
      have t2 : wb.cell? ⟨tb, 2, none⟩ = some (.slice Ai c.inn.length ki) := HT.out.cell 2
      have t3 : wb.cell? ⟨tb, 3, none⟩ = some (.slice Ao c.out.length ko) := HT.out.cell 3
      have t4 : wb.cell? ⟨tb, 4, none⟩ = some (.bool c.app) := HT.out.cell 4
      have hbz : w.heap.size ≤ wb.heap.size := HSb.out.1.size
      have HBn := Lib.hid ((Below.refl wb.heap.size wb).alloc (Nat.le_refl _) (.cells #[.slice Aa c.asg.length ka, .slice Ab c.words.length kb', .slice Ai c.inn.length ki, .slice Ao c.out.length ko, .bool c.app] 109))
      have HNU := Lib.hid (HNS.out.next HBn.out)
      have HRDn := Lib.hid (HRD.out.next HBn.out)
      have HT2n := Lib.hid (HT2.out.next HBn.out HT2.out.lt)
      have HNEa := Lib.hid (own_blk_ne (HOb.out.alloc (.cells #[.slice Aa c.asg.length ka, .slice Ab c.words.length kb', .slice Ai c.inn.length ki, .slice Ao c.out.length ko, .bool c.app] 109)) HT2n.out (by decide))
      go_upto_region 6 with (at_builtin; refine wpList_append_lies _ rfl _ _ _ rfl w.heap.size 109 js _ 5 104 Try.underlying97 hjs hjs0 hjs1 hjs2 rfl (by omega) _ a.length (rowC smV a vs) (by rfl) (HOb.out.alloc _) ⟨wb.heap.size, 0, none⟩ 1 1 [.slice Aa c.asg.length ka, .slice Ab c.words.length kb', .slice Ai c.inn.length ki, .slice Ao c.out.length ko, .bool c.app] rfl rfl (World.news_of_block (cs := #[.slice Aa c.asg.length ka, .slice Ab c.words.length kb', .slice Ai c.inn.length ki, .slice Ao c.out.length ko, .bool c.app]) (t := 109) (fr := (0, 0)) (heap_alloc_new wb _)) (by simp [Value.oneCell']) (by omega) (by unfold maxLen; omega) (by omega) (by simp; omega) (wb.heap.size + 1) (by simp) ?_; intro gg cap w3 hown3 hgrow3 hat hlt3)
      have HSc := Lib.hid (HSb.out.push (c := c) (u := ⟨.slice Aa c.asg.length ka, .slice Ab c.words.length kb', .slice Ai c.inn.length ki, .slice Ao c.out.length ko⟩) HVSb.out HOb.out HBn.out hgrow3 hown3 HNU.out)
      have HT2c := Lib.hid (HT2n.out.grown hgrow3 (Ne.symm HNEa.out))
      have K3 : Kept [109] (wb.alloc (.cells #[.slice Aa c.asg.length ka, .slice Ab c.words.length kb', .slice Ai c.inn.length ki, .slice Ao c.out.length ko, .bool c.app] 109)) w3 := Kept.of_own [109] (own_next HOb.out HBn.out) hgrow3 rfl
      have HRDc := Lib.hid (HRDn.out.keep K3 rfl rfl)
      clear hown3 hgrow3 hat hlt3 K3 HSb HVSb HOb HBn HNU HNS HRD HRDn HT HT2 HT2n HNEa t0 t1 t2 t3 t4
      have x0 : w3.cell? ⟨w.heap.size, 0, none⟩ = some (.slice A0 ts.length k0) := HSc.out.2.1.cell 0
      have x1 : w3.cell? ⟨w.heap.size, 1, none⟩ = some (.int .i64 (en : Int)) := HSc.out.2.1.cell 1
      have fx0 := HSc.out.2.1.frozen 0
      have fx1 := HSc.out.2.1.frozen 1
      have y0 : w3.cell? ⟨tb + 1, 0, none⟩ = some (.slice A1 ts1.length k1) := HT2c.out.cell 0
      have y1 : w3.cell? ⟨tb + 1, 1, none⟩ = some (.int .i64 (en : Int)) := HT2c.out.cell 1
      have HSe := Lib.hid (HSc.out.box HRDc.out)
      go_upto_region 7 with (fail)
      clear HSc HT2c HRDc x0 x1 fx0 fx1 y0 y1
      generalize ((w3.setCell ⟨w.heap.size, 0, none⟩ (.slice A1 ts1.length k1)).setCell ⟨w.heap.size, 1, none⟩ (.int .i64 (en : Int))) = we at *
      have x0 : we.cell? ⟨w.heap.size, 0, none⟩ = some (.slice A1 ts1.length k1) := HSe.out.2.1.cell 0
      have x1 : we.cell? ⟨w.heap.size, 1, none⟩ = some (.int .i64 (en : Int)) := HSe.out.2.1.cell 1
      by_cases hn : nextS ts1 = [124]
      · obtain ⟨t1, r1, rfl⟩ : ∃ t1 r1, ts1 = t1 :: r1 := by
          cases ts1 with
          | nil => exact absurd hn (by simp [nextS])
          | cons t1 r1 => exact ⟨t1, r1, rfl⟩
        have HN := Lib.hid (show bs (nextS (t1 :: r1)) = ⟨#[124]⟩ by rw [hn]; rfl)
        have hpp := pipS_pipe en m ts r1 a c t1 HRS.out hn
        clear hn
        simp only [List.length_cons] at x0 hl1 HSe
        go_upto_region 9 with (go_at_call 45; refine (next_ref _ _ _ en HSe.out.2.2.1).mono ?_; rintro e wf ⟨rfl, kf⟩; rw [HN.out])
        have HSf := Lib.hid (HSe.out.next kf)
        clear HSe x0 x1 kf
        have x0 : wf.cell? ⟨w.heap.size, 0, none⟩ = some (.slice A1 (List.length r1 + 1) k1) := HSf.out.2.1.cell 0
        have x1 : wf.cell? ⟨w.heap.size, 1, none⟩ = some (.int .i64 (en : Int)) := HSf.out.2.1.cell 1
        have fx0 := HSf.out.2.1.frozen 0
        have fx1 := HSf.out.2.1.frozen 1
        by_cases hm : m = 0
        · have HR2 := Lib.hid (HR.out.trans (hpp.trans (if_pos hm)))
          have e8 : ((a.length : Int) + 1 == 8) = true := by rw [beq_iff_eq]; omega
          clear hpp hm
          go_upto_region 10 with (fail)
          refine wp_region_noPanic ?_
          refine wp_region_held_drew (S := (fun w' => w'.cell? ⟨w.heap.size, 0, none⟩ = some (.slice A1 (List.length r1 + 1) k1) ∧ w'.cell? ⟨w.heap.size, 1, none⟩ = some (.int .i64 (en : Int)))) (by kernel_rfl) ?_ (fun hHeld => ?_)
          · exact ⟨x0, x1⟩
          refine wpAnyH_take (i := 0) (v := ?_) rfl (by kernel_rfl) (by kernel_rfl) (by kernel_rfl) (fun _ _ _ h => h) (Or.inl ⟨by kernel_rfl, ?_⟩) hHeld ?_
          rotate_left
          · (intro w hSw; (try dsimp only at hSw); go_simp; try with_reducible rfl)
          try simp only [Act.put, List.setIfInBounds_toArray, List.set_cons_zero, List.set_cons_succ]
          refine wpAnyH_take (i := 1) (v := ?_) rfl (by kernel_rfl) (by kernel_rfl) (by kernel_rfl) (fun _ _ _ h => h) (Or.inl ⟨by kernel_rfl, ?_⟩) hHeld ?_
          rotate_left
          · (intro w hSw; (try dsimp only at hSw); go_simp; try with_reducible rfl)
          try simp only [Act.put, List.setIfInBounds_toArray, List.set_cons_zero, List.set_cons_succ]
          refine wpAnyH_ready (rs := [2]) (by kernel_rfl) (by simp) ?_
          refine AllReadyH.cons rfl (fun K hK => ?_) AllReadyH.nil
          go_simp
          go_at_call 47; refine (place_ref wf.drew (.slice A1 (List.length r1 + 1) k1) (t1 :: r1) en (show RdK wf.drew (.slice A1 (List.length r1 + 1) k1) (t1 :: r1) from HSf.out.2.2.1)).mono ?_; rintro e wp ⟨rfl, kp0⟩; have kp : Below wf.heap.size wf wp := ((Below.refl wf.heap.size wf).drew).trans kp0; have HSp := Lib.hid (HSf.out.next (w' := wp) kp); have bx := HSp.out.2.1; have xx0 : wp.cell? ⟨w.heap.size, 0, none⟩ = some (.slice A1 (List.length r1 + 1) k1) := bx.cell 0; have xx1 : wp.cell? ⟨w.heap.size, 1, none⟩ = some (.int .i64 (en : Int)) := bx.cell 1; have bz := HSp.out.2.2.2.1; have z0 := bz.cell 0; have z1 := bz.cell 1; have fz0 := bz.frozen 0; have fz1 := bz.frozen 1
          try (go_wp2_with fail)
          refine hK.out _ _ ?_ (fun hNew => ?_)
          · exact ⟨xx0, xx1⟩
          clear hK K hHeld
          have hHeld := hNew
          clear hNew
          try simp only [Act.put, List.setIfInBounds_toArray, List.set_cons_zero, List.set_cons_succ]
          refine wpAnyH_take (i := 3) (v := ?_) rfl (by kernel_rfl) (by kernel_rfl) (by kernel_rfl) (fun _ _ _ h => h) (Or.inl ⟨by kernel_rfl, ?_⟩) hHeld ?_
          rotate_left
          · (intro w hSw; (try dsimp only at hSw); go_simp; try with_reducible rfl)
          try simp only [Act.put, List.setIfInBounds_toArray, List.set_cons_zero, List.set_cons_succ]
          refine wpAnyH_ready (rs := [4]) (by kernel_rfl) (by simp) ?_
          refine AllReadyH.cons rfl (fun K hK => ?_) AllReadyH.nil
          go_simp
          refine hK.out _ _ ?_ (fun hNew => ?_)
          · go_keep
          clear hK K hHeld
          have hHeld := hNew
          clear hNew
          try simp only [Act.put, List.setIfInBounds_toArray, List.set_cons_zero, List.set_cons_succ]
          refine wpAnyH_take (i := 5) (v := ?_) rfl (by kernel_rfl) (by kernel_rfl) (by kernel_rfl) (fun _ _ _ h => h) (Or.inl ⟨by kernel_rfl, ?_⟩) hHeld ?_
          rotate_left
          · (intro w hSw; (try dsimp only at hSw); go_simp; try with_reducible rfl)
          try simp only [Act.put, List.setIfInBounds_toArray, List.set_cons_zero, List.set_cons_succ]
          refine wpAnyH_take (i := 6) (v := ?_) rfl (by kernel_rfl) (by kernel_rfl) (by kernel_rfl) (fun _ _ _ h => h) (Or.inl ⟨by kernel_rfl, ?_⟩) hHeld ?_
          rotate_left
          · (intro w hSw; (try dsimp only at hSw); go_simp; try with_reducible rfl)
          try simp only [Act.put, List.setIfInBounds_toArray, List.set_cons_zero, List.set_cons_succ]
          refine wpAnyH_done (by kernel_rfl) ?_ _
          clear hHeld
          simp only [List.getElem_toArray, List.getElem_cons_zero, List.getElem_cons_succ, Act.put, List.setIfInBounds_toArray, List.set_cons_zero, List.set_cons_succ]
          refine NoPanic.normal ?_
          have HS0 : PpS w en (.slice A1 (List.length r1 + 1) k1) _ (t1 :: r1) (a ++ [c]) wp := HSp.out
          obtain ⟨_, _, d3, d4⟩ := HS0.done
          generalize ((wp.setCell ⟨w.heap.size + 1, 0, none⟩ (.slice A1 (List.length r1 + 1) k1)).setCell ⟨w.heap.size + 1, 1, none⟩ (.int .i64 (en : Int))) = wz at d3 d4 ⊢
          have r0 := d4.cell 0
          have r1' := d4.cell 1
          simp at r0 r1'
          go_wp2
          refine bodyPost_ret (v := .tuple #[.slice none 0 0, .agg #[.slice A1 (List.length r1 + 1) k1, .int .i64 (en : Int)], .int .i64 9, .int .i64 ((placeS en (t1 :: r1) : Nat) : Int)]) (by simp [results, Try.results44, go_sem, r0, r1']) rfl ?_
          rw [HR2.out]
          exact ⟨_, _, _, rfl, by decide, d3⟩
        · have HR2 := Lib.hid (HR.out.trans (hpp.trans (if_neg hm)))
          have e8 : ((a.length : Int) + 1 == 8) = false := beq_false_of_ne (by omega)
          clear hpp
          go_wp2_with (go_at_call 46; refine (rest_ref _ _ _ _ en HSf.out.2.2.1 (by omega)).mono ?_; rintro e wg ⟨v3, rfl, hv3, kg⟩; obtain ⟨A3, k3, rfl, hk3⟩ := RowRd.form hv3; have HSg := Lib.hid (HSf.out.next kg); have HSh := Lib.hid (HSg.out.box hv3); have bg := HSg.out.2.1; have x0 := bg.cell 0; have x1 := bg.cell 1; have fx0 := bg.frozen 0; have fx1 := bg.frozen 1)
          go_roundg m
          case rel => exact ⟨_, r1, a ++ [c], HSh.out, by simp; omega, by omega, by omega, fun t h => HT1.out t (List.mem_cons_of_mem _ h), HR2.out⟩
          case measure => omega
      · have HR2 := Lib.hid (HR.out.trans (pipS_out en m ts ts1 a c HRS.out hn))
        obtain ⟨T, hT⟩ : ∃ T, bs (nextS ts1) = T := ⟨_, rfl⟩
        have HTT := Lib.hid hT
        have e3 : (T.toList == [124]) = false := by rw [← hT, bs_tl]; exact beq_false_of_ne hn
        have e4 : (T.toList != [124]) = true := by rw [bne, e3]; rfl
        have z0 : we.cell? ⟨w.heap.size + 1, 0, none⟩ = some (.slice none 0 0) := HSe.out.2.2.2.1.cell 0
        clear hT hn z0
        go_upto_region 8 with (go_at_call 45; refine (next_ref _ _ _ en HSe.out.2.2.1).mono ?_; rintro e wf ⟨rfl, kf⟩; rw [HTT.out])
        have HSf := Lib.hid (HSe.out.next kf)
        clear HSe x0 x1 kf
        have x0 : wf.cell? ⟨w.heap.size, 0, none⟩ = some (.slice A1 ts1.length k1) := HSf.out.2.1.cell 0
        have x1 : wf.cell? ⟨w.heap.size, 1, none⟩ = some (.int .i64 (en : Int)) := HSf.out.2.1.cell 1
        have z0 : wf.cell? ⟨w.heap.size + 1, 0, none⟩ = some (.slice none 0 0) := HSf.out.2.2.2.1.cell 0
        have z1 : wf.cell? ⟨w.heap.size + 1, 1, none⟩ = some (.int .i64 0) := HSf.out.2.2.2.1.cell 1
        have fz0 := HSf.out.2.2.2.1.frozen 0
        have fz1 := HSf.out.2.2.2.1.frozen 1
        go_region
        obtain ⟨d1, d2, d3, d4⟩ := HSf.out.doneD
        generalize ((wf.setCell ⟨w.heap.size + 1, 0, none⟩ (.slice A1 ts1.length k1)).setCell ⟨w.heap.size + 1, 1, none⟩ (.int .i64 (en : Int))).drew = wz at d1 d2 d3 d4 ⊢
        have r0 := d4.cell 0
        have r1 := d4.cell 1
        simp at r0 r1
        go_wp2
        refine bodyPost_ret (v := .tuple #[_, .agg #[.slice A1 ts1.length k1, .int .i64 (en : Int)], .int .i64 0, .int .i64 0]) (by simp [results, Try.results44, go_sem, r0, r1]; rfl) rfl ?_
        rw [HR2.out]
        exact ⟨_, _, rfl, d1, d2, d3⟩
end Go.Proofs.Ytiddchpkmcncdaa
/- Words for memory and plain facts of layer 41: the state of the reference's Parse. -/
namespace Go.Proofs.Ytiddchpkmcncdaa
open Go.RowKit
set_option linter.unusedSimpArgs false
set_option linter.unusedVariables false
def OpOk (t : Tk) : Prop := t.op = [] ∨ t.op ∈ opsL
theorem opAt_mem2 (l : Bs) : opAt l = [] ∨ opAt l ∈ opsL := by
  unfold opAt
  cases h : opsL.find? fun o => o.isPrefixOf l with
  | none => exact .inl rfl
  | some o => exact .inr (List.mem_of_find?_eq_some h)
theorem toks_op : ∀ (l : Bs) (k p : Nat) (ts : List Tk), toksS l k p = .ok ts → ∀ t ∈ ts, OpOk t
  | [], k, p, ts, h => by
    unfold toksS at h; cases h
    intro t h; simp at h
  | b :: l, k + 1, p, ts, h => by
    unfold toksS at h
    exact toks_op l k (p + 1) ts h
  | b :: l, 0, p, ts, h => by
    unfold toksS at h
    split at h
    · exact toks_op l 0 (p + 1) ts h
    split at h
    · cases hr : toksS l ((opAt (b :: l)).length - 1) (p + 1) with
      | err q e => rw [hr] at h; cases h
      | ok ts' =>
        rw [hr] at h
        cases h
        intro t ht
        rcases List.mem_cons.1 ht with rfl | ht
        · exact opAt_mem2 _
        · exact toks_op l _ (p + 1) ts' hr t ht
    · cases hw : wordS (b :: l) 0 p [] [] with
      | err q e => rw [hw] at h; cases h
      | ok x =>
        obtain ⟨ps, tx, q⟩ := x
        rw [hw] at h
        cases hr : toksS l (q - (p + 1)) (p + 1) with
        | err q e => simp only [hr, R.cons] at h; cases h
        | ok ts' =>
          simp only [hr, R.cons] at h
          cases h
          intro t ht
          rcases List.mem_cons.1 ht with rfl | ht
          · exact .inl rfl
          · exact toks_op l _ (p + 1) ts' hr t ht
theorem simS_head (en : Nat) : ∀ (n : Nat) (ts : List Tk) (c c' : Sm) (t : Tk) (r : List Tk), ts.length ≤ n → simS en ts c = .ok (c', t :: r) → redS t.op = false ∧ t.word.isEmpty = true
  | n, [], c, c', t, r, hn, h => by
    rw [simS_nil] at h
    split at h
    · cases h
    · cases h
  | 0, u :: ts, c, c', t, r, hn, h => by simp at hn
  | n + 1, u :: ts, c, c', t, r, hn, h => by
    have hn' : ts.length ≤ n := by simpa using hn
    cases hr : redS u.op with
    | true =>
      rw [simS_red en u ts c hr] at h
      split at h
      · cases h
      split at h
      · cases h
      exact simS_head en n ts.tail _ c' t r (by simp; omega) h
    | false =>
      cases hw : u.word.isEmpty with
      | true =>
        rw [simS_stop en u ts c hr hw] at h
        split at h
        · cases h
        · cases h; exact ⟨hr, hw⟩
      | false =>
        rw [simS_word en u ts c hr hw] at h
        split at h
        · split at h
          · cases h
          · exact simS_head en n ts _ c' t r hn' h
        · split at h
          · cases h
          · exact simS_head en n ts _ c' t r hn' h
theorem pipS_head (en : Nat) : ∀ (n : Nat) (ts : List Tk) (a q : List Sm) (t : Tk) (r : List Tk), pipS en n ts a = .ok (q, t :: r) → redS t.op = false ∧ t.word.isEmpty = true ∧ t.op ≠ [124]
  | 0, ts, a, q, t, r, h => by unfold pipS at h; cases h
  | n + 1, ts, a, q, t, r, h => by
    rw [pipS] at h
    cases hs : simS en ts smE with
    | err p e => rw [hs] at h; cases h
    | ok x =>
      obtain ⟨c, ts2⟩ := x
      rw [hs] at h
      cases ts2 with
      | nil => cases h
      | cons u r2 =>
        have hh := simS_head en ts.length ts smE c u r2 (Nat.le_refl _) hs
        simp only at h
        by_cases ho : u.op = [124]
        · rw [if_pos (by simpa using ho)] at h
          split at h
          · cases h
          · exact pipS_head en n r2 _ q t r h
        · rw [if_neg (by simpa using ho)] at h
          cases h
          exact ⟨hh.1, hh.2, ho⟩
theorem pipS_sufx (en : Nat) : ∀ (n : Nat) (ts : List Tk) (a q : List Sm) (r : List Tk), pipS en n ts a = .ok (q, r) → r <:+ ts
  | 0, ts, a, q, r, h => by unfold pipS at h; cases h
  | n + 1, ts, a, q, r, h => by
    rw [pipS] at h
    cases hs : simS en ts smE with
    | err p e => rw [hs] at h; cases h
    | ok x =>
      obtain ⟨c, ts2⟩ := x
      rw [hs] at h
      have hh := (simS_suf en ts.length ts smE c ts2 (Nat.le_refl _) hs).1
      cases ts2 with
      | nil => cases h; exact hh
      | cons u r2 =>
        simp only at h
        by_cases ho : u.op = [124]
        · rw [if_pos (by simpa using ho)] at h
          split at h
          · cases h
          · exact ((pipS_sufx en n r2 _ q r h).trans (List.suffix_cons u r2)).trans hh
        · rw [if_neg (by simpa using ho)] at h
          cases h
          exact hh
/-- What can stand behind a pipeline. -/
theorem head_op {t : Tk} (h1 : OpOk t) {N : Nat} (h2 : TkOk N t) (h3 : redS t.op = false) (h4 : t.word.isEmpty = true) (h5 : t.op ≠ [124]) : isSep t.op ∨ t.op = [38] := by
  have hne : t.op ≠ [] := fun h => h2.2.2.2.2 h (by simpa using h4)
  rcases h1 with h1 | h1
  · exact absurd h1 hne
  · unfold opsL at h1
    unfold redS at h3
    unfold isSep
    simp only [List.mem_cons, List.not_mem_nil, or_false] at h1
    rcases h1 with h | h | h | h | h | h | h | h
    · exact .inl (.inr (.inr h))
    · exact .inl (.inr (.inl h))
    · rw [h] at h3; cases h3
    · exact absurd h h5
    · exact .inr h
    · exact .inl (.inl h)
    · rw [h] at h3; cases h3
    · rw [h] at h3; cases h3
/-- The state of Parse: the tokens left, the parts so far; B: the block of the line. -/
def QrS (w0 : World) (B en : Nat) (v : Value) (ts : List Tk) (l : Ln) (wr : World) : Prop :=
  Below w0.heap.size w0 wr ∧ Blk wr w0.heap.size 30 #[.slice none 0 0, .bool false] ∧ w0.heap.size < B ∧ LnB 51 39 112 109 101 30 w0.heap.size B l wr ∧ Blk wr (B + 1) 96 #[v, .int .i64 (en : Int)] ∧ RdK wr v ts
theorem QrS.next {w0 : World} {B en : Nat} {v : Value} {ts : List Tk} {l : Ln} {w w' : World} (h : QrS w0 B en v ts l w) (hb : Below w.heap.size w w') : QrS w0 B en v ts l w' := by
  obtain ⟨h1, h2, h3, h4, h5, h6⟩ := h
  exact ⟨h1.trans (hb.mono h1.size), h2.next hb h2.lt, h3, h4.next hb, h5.next hb h5.lt, h6.next hb⟩
theorem QrS.box {w0 : World} {B en : Nat} {v v' : Value} {ts ts' : List Tk} {l : Ln} {w : World} (h : QrS w0 B en v ts l w) (hv : RdK w v' ts') : QrS w0 B en v' ts' l ((w.setCell ⟨B + 1, 0, none⟩ v').setCell ⟨B + 1, 1, none⟩ (.int .i64 (en : Int))) := by
  obtain ⟨h1, h2, h3, h4, h5, h6⟩ := h
  have k1 : Kept [96] w (w.setCell ⟨B + 1, 0, none⟩ v') := Kept.of_blk [96] h5 (only_setCell (p := ⟨B + 1, 0, none⟩) (World.grownBy.refl w (some (B + 1))) (.inl rfl) v') rfl
  have h5' := h5.set_ 0 v'
  have k2 : Kept [96] (w.setCell ⟨B + 1, 0, none⟩ v') _ := Kept.of_blk [96] h5' (only_setCell (p := ⟨B + 1, 1, none⟩) (World.grownBy.refl _ (some (B + 1))) (.inl rfl) (.int .i64 (en : Int))) rfl
  have k := k1.trans k2
  exact ⟨(h1.setCell (p := ⟨B + 1, 0, none⟩) (by (try simp); (try omega)) _).setCell (p := ⟨B + 1, 1, none⟩) (by (try simp); (try omega)) _, h2.keep k rfl, h3, h4.keep k rfl rfl rfl rfl rfl rfl, blk_cast (h5'.set_ 1 _) rfl, hv.keep k rfl rfl⟩
/-- A part is appended. -/
theorem QrS.push {w0 W W' w1 : World} {B en n k : Nat} {v va v' : Value} {ts : List Tk} {l l' : Ln} {xs : List Value} {cs : Array Value} (h : QrS w0 B en v ts l W) (r3 : W.ownsRow w0.heap.size 101 2 va n xs) (hb : Below W.heap.size W W') (hk : W'.grownBy w1 va.ownBlock)
    (B1 : Blk w1 B 30 cs) (hs : LnB 51 39 112 109 101 30 w0.heap.size B l' (w1.setCell ⟨B, k, none⟩ v')) : QrS w0 B en v ts l' (w1.setCell ⟨B, k, none⟩ v') := by
  obtain ⟨h1, h2, h3, h4, h5, h6⟩ := h
  have K : Kept [101] W w1 := (Kept.of_below _ hb).trans (Kept.of_own [101] (own_next r3 hb) hk rfl)
  have K2 : Kept [30] w1 (w1.setCell ⟨B, k, none⟩ v') := Kept.of_blk [30] B1 (only_setCell (p := ⟨B, k, none⟩) (World.grownBy.refl _ _) (.inl rfl) _) rfl
  refine ⟨?_, (h2.keep K rfl).far (p := ⟨B, k, none⟩) (by (try simp); (try omega)) _, h3, hs, (h5.keep K rfl).keep K2 rfl, (h6.keep K rfl rfl).keep K2 rfl rfl⟩
  exact (below_own (B := w0.heap.size) (h1.trans (hb.mono h1.size)) (own_next r3 hb) hk (Nat.le_refl _) (Nat.le_trans h1.size hb.size)).setCell (p := ⟨B, k, none⟩) (by (try simp); (try omega)) _
/-- The line runs behind the prompt. -/
theorem QrS.back {w0 : World} {B en : Nat} {v : Value} {ts : List Tk} {l : Ln} {w : World} (h : QrS w0 B en v ts l w) : QrS w0 B en v ts ⟨l.parts, true⟩ (w.setCell ⟨B, 1, none⟩ (.bool true)) := by
  obtain ⟨h1, h2, h3, h4, h5, h6⟩ := h
  obtain ⟨va, b, ra⟩ := h4
  have K2 : Kept [30] w (w.setCell ⟨B, 1, none⟩ (.bool true)) := Kept.of_blk [30] b (only_setCell (p := ⟨B, 1, none⟩) (World.grownBy.refl _ _) (.inl rfl) _) rfl
  exact ⟨h1.setCell (p := ⟨B, 1, none⟩) (by (try simp); (try omega)) _, h2.far (p := ⟨B, 1, none⟩) (by (try simp); (try omega)) _, h3, ⟨va, blk_cast (b.set_ 1 (.bool true)) rfl, ra.keep K2 rfl (fun _ _ h => NPp.keep h K2 rfl rfl rfl rfl)⟩, h5.keep K2 rfl, h6.keep K2 rfl rfl⟩
/-- What Parse leaves. -/
def QrP (w : World) (r : R Ln) (e : Ending) (w' : World) : Prop :=
  Below w.heap.size w w' ∧ match r with
  | .ok l => ∃ v, e = .returned (.tuple #[.agg #[v, .bool l.bg], .int .i64 0, .int .i64 0]) ∧ RowRd 101 plV (NPp 51 39 112 109) w' v l.parts
  | .err q er => e = .returned (.tuple #[.agg #[.slice none 0 0, .bool false], .int .i64 (q : Int), .int .i64 er])
/-- The cells of the state. -/
theorem QrS.cells {w0 : World} {B en : Nat} {v : Value} {ts : List Tk} {l : Ln} {w : World} (h : QrS w0 B en v ts l w) : ∃ Ga ca, w.cell? ⟨B, 0, none⟩ = some (.slice Ga l.parts.length ca) ∧ w.cell? ⟨B, 1, none⟩ = some (.bool l.bg) ∧ w.frozen? ⟨B, 0, none⟩ = false ∧ w.frozen? ⟨B, 1, none⟩ = false ∧
    w.cell? ⟨B + 1, 0, none⟩ = some v ∧ w.cell? ⟨B + 1, 1, none⟩ = some (.int .i64 (en : Int)) ∧ w.frozen? ⟨B + 1, 0, none⟩ = false ∧ w.frozen? ⟨B + 1, 1, none⟩ = false ∧
    w.cell? ⟨w0.heap.size, 0, none⟩ = some (.slice none 0 0) ∧ w.cell? ⟨w0.heap.size, 1, none⟩ = some (.bool false) ∧ w.frozen? ⟨w0.heap.size, 0, none⟩ = false ∧ w.frozen? ⟨w0.heap.size, 1, none⟩ = false := by
  obtain ⟨h1, h2, h3, ⟨va, b, ra⟩, h5, h6⟩ := h
  obtain ⟨Ga, ca, rfl, _⟩ := RowRd.form ra.rd
  exact ⟨Ga, ca, b.cell 0, b.cell 1, b.frozen 0, b.frozen 1, h5.cell 0, h5.cell 1, h5.frozen 0, h5.frozen 1, h2.cell 0, h2.cell 1, h2.frozen 0, h2.frozen 1⟩
/-- The line is copied into the result. -/
theorem QrS.done {w0 : World} {B en : Nat} {v va : Value} {ts : List Tk} {l : Ln} {w : World} (h : QrS w0 B en v ts l w) (y0 : w.cell? ⟨B, 0, none⟩ = some va) :
    Blk ((w.setCell ⟨w0.heap.size, 0, none⟩ va).setCell ⟨w0.heap.size, 1, none⟩ (.bool l.bg)) w0.heap.size 30 #[va, .bool l.bg] ∧ QrP w0 (.ok l) (.returned (.tuple #[.agg #[va, .bool l.bg], .int .i64 0, .int .i64 0])) ((w.setCell ⟨w0.heap.size, 0, none⟩ va).setCell ⟨w0.heap.size, 1, none⟩ (.bool l.bg)) := by
  obtain ⟨h1, h2, h3, ⟨vb, b, ra⟩, h5, h6⟩ := h
  have e0 := (b.cell 0).symm.trans y0
  simp at e0
  subst e0
  have k1 : Kept [30] w (w.setCell ⟨w0.heap.size, 0, none⟩ vb) := Kept.of_blk [30] h2 (only_setCell (p := ⟨w0.heap.size, 0, none⟩) (World.grownBy.refl w (some (w0.heap.size))) (.inl rfl) vb) rfl
  have h2' := h2.set_ 0 vb
  have k2 : Kept [30] (w.setCell ⟨w0.heap.size, 0, none⟩ vb) _ := Kept.of_blk [30] h2' (only_setCell (p := ⟨w0.heap.size, 1, none⟩) (World.grownBy.refl _ (some (w0.heap.size))) (.inl rfl) (.bool l.bg)) rfl
  have k := k1.trans k2
  refine ⟨blk_cast (h2'.set_ 1 (.bool l.bg)) rfl, ?_, vb, rfl, (RowOwn.keep ra k rfl (fun _ _ h => NPp.keep h k rfl rfl rfl rfl)).rd⟩
  exact (h1.setCell (p := ⟨w0.heap.size, 0, none⟩) (Nat.le_refl _) _).setCell (p := ⟨w0.heap.size, 1, none⟩) (Nat.le_refl _) _
/-- Nothing is stored into the result. -/
theorem QrS.bad {w0 : World} {B en : Nat} {v : Value} {ts : List Tk} {l : Ln} {w : World} (h : QrS w0 B en v ts l w) :
    Blk ((w.setCell ⟨w0.heap.size, 0, none⟩ (.slice none 0 0)).setCell ⟨w0.heap.size, 1, none⟩ (.bool false)) w0.heap.size 30 #[.slice none 0 0, .bool false] ∧ Below w0.heap.size w0 ((w.setCell ⟨w0.heap.size, 0, none⟩ (.slice none 0 0)).setCell ⟨w0.heap.size, 1, none⟩ (.bool false)) := by
  obtain ⟨h1, h2, _⟩ := h
  exact ⟨blk_cast ((h2.set_ 0 _).set_ 1 _) rfl, (h1.setCell (p := ⟨w0.heap.size, 0, none⟩) (Nat.le_refl _) _).setCell (p := ⟨w0.heap.size, 1, none⟩) (Nat.le_refl _) _⟩
theorem QrS.new {w0 w1 : World} {en : Nat} {v : Value} {ts : List Tk} (hb : Below w0.heap.size w0 w1) (h2 : Blk w1 w0.heap.size 30 #[.slice none 0 0, .bool false]) (h6 : RdK w1 v ts) : QrS w0 w1.heap.size en v ts ⟨[], false⟩ ((w1.alloc (.cells #[.slice none 0 0, .bool false] 30)).alloc (.cells #[v, .int .i64 (en : Int)] 96)) := by
  have b1 := (Below.refl w1.heap.size w1).alloc (Nat.le_refl _) (.cells #[.slice none 0 0, .bool false] 30)
  have b2 := b1.alloc (by (try simp); (try omega)) (.cells #[v, .int .i64 (en : Int)] 96)
  have k2 := Blk.new (w1.alloc (.cells #[.slice none 0 0, .bool false] 30)) 96 #[v, .int .i64 (en : Int)]
  rw [show (w1.alloc (.cells #[.slice none 0 0, .bool false] 30)).heap.size = w1.heap.size + 1 by simp] at k2
  exact ⟨hb.trans (b2.mono hb.size), h2.next b2 h2.lt, h2.lt, LnB.new ((Blk.new w1 30 #[.slice none 0 0, .bool false]).alloc _), k2, h6.next b2⟩
def PrRel (w0 : World) (B en : Nat) (r : R Ln) (gk : Nat) (v11 : Value) (wr : World) : Prop :=
  ∃ v ts a wh, QrS w0 B en v ts ⟨a, false⟩ wr ∧ v11 = .int .i64 wh ∧ a.length + gk = 16 ∧ 0 < gk ∧ ts.length ≤ 90000 ∧ (∀ t ∈ ts, TkOk 100000 t ∧ OpOk t) ∧ r = linS en gk ts wh a
theorem all_per (s : ByteArray) (h : ¬ badS s.data.toList < s.size) : ∀ k, k < s.size → perI (bt s k) = true := by
  intro k hk
  unfold badS at h
  have h1 : (s.data.toList.takeWhile fun b => perI (n8 b)).length = s.data.toList.length := by
    have := (List.takeWhile_prefix (p := fun b => perI (n8 b)) (l := s.data.toList)).length_le
    simp at this h ⊢
    omega
  have h2 := (List.takeWhile_prefix (p := fun b => perI (n8 b)) (l := s.data.toList)).eq_of_length h1
  have hk' : k < s.data.toList.length := by simpa using hk
  have h3 : s.data.toList[k] ∈ s.data.toList.takeWhile fun b => perI (n8 b) := by rw [h2]; exact List.getElem_mem hk'
  have h4 := List.all_takeWhile (p := fun b => perI (n8 b)) (l := s.data.toList)
  rw [List.all_eq_true] at h4
  have := h4 _ h3
  unfold bt
  rw [List.getD_eq_getElem?_getD, List.getElem?_eq_getElem hk']
  exact this
theorem toks_err : ∀ (l : Bs) (k p : Nat) (q : Nat) (e : Int), toksS l k p = .err q e → e ≠ 0
  | [], k, p, q, e, h => by unfold toksS at h; cases h
  | b :: l, k + 1, p, q, e, h => by
    unfold toksS at h
    exact toks_err l k (p + 1) q e h
  | b :: l, 0, p, q, e, h => by
    unfold toksS at h
    split at h
    · exact toks_err l 0 (p + 1) q e h
    split at h
    · cases hr : toksS l ((opAt (b :: l)).length - 1) (p + 1) with
      | err q2 e2 => rw [hr] at h; cases h; exact toks_err l _ (p + 1) _ _ hr
      | ok ts' => rw [hr] at h; cases h
    · cases hw : wordS (b :: l) 0 p [] [] with
      | err q2 e2 => rw [hw] at h; cases h; exact wordS_err _ _ _ _ _ _ _ hw
      | ok x =>
        obtain ⟨ps, tx, q1⟩ := x
        rw [hw] at h
        cases hr : toksS l (q1 - (p + 1)) (p + 1) with
        | err q2 e2 => simp only [hr, R.cons] at h; cases h; exact toks_err l _ (p + 1) _ _ hr
        | ok ts' => simp only [hr, R.cons] at h; cases h
end Go.Proofs.Ytiddchpkmcncdaa
