/- Walks of layer 47: a deed is performed. -/
import Derived.Test.YtmjkcanjfjfkfaaT9
import Derived.Test.YtmjkcanjfjfkfaaT1
import Derived.Test.YtmjkcanjfjfkfaaLA
import Derived.Test.YtmjkcanjfjfkfaaP2
import Derived.Test.YtmjkcanjfjfkfaaB12
import Derived.Lib.MinMax
namespace Go.Proofs.Ytmjkcanjfjfkfaa
open Go.RowKit
set_option linter.unusedSimpArgs false
set_option linter.unusedVariables false
attribute [local go_sem ↓] Go.wp_at_zero Go.wp_at_succ
open Go.MapKept Go.ChangeMaps
theorem bits_and1 (y : Nat) : bits BinOp.and IntKind.u8 (y : Int) 1 = ((y % 2 : Nat) : Int) := by
  show IntKind.u8.wrap ((BitVec.ofInt 8 (y : Int) &&& BitVec.ofInt 8 1).toNat : Nat) = _
  have h1 : (BitVec.ofInt 8 (y : Int) &&& BitVec.ofInt 8 1).toNat = y % 2 := by
    rw [BitVec.toNat_and, BitVec.ofInt_natCast, BitVec.toNat_ofNat]
    show y % 2 ^ 8 &&& 1 = y % 2
    rw [Nat.and_one_is_mod]
    omega
  rw [h1]
  have h2 : y % 2 < 2 := Nat.mod_lt _ (by omega)
  rcases (show y % 2 = 0 ∨ y % 2 = 1 by omega) with h | h <;> rw [h] <;> rfl
theorem bits_bit (x m : Nat) : bits BinOp.and IntKind.u8 ((x : Int) / 2 ^ m) 1 = if bitN x m then 1 else 0 := by
  have h1 : ((x : Int) / 2 ^ m) = ((x / 2 ^ m : Nat) : Int) := by push_cast; rfl
  rw [h1, bits_and1]
  unfold bitN
  have h2 : x / 2 ^ m % 2 < 2 := Nat.mod_lt _ (by omega)
  rcases (show x / 2 ^ m % 2 = 0 ∨ x / 2 ^ m % 2 = 1 by omega) with h | h <;> rw [h] <;> rfl
theorem par_is (n : Nat) : ((n : Int) % 2 == 1) = (n % 2 == 1) := by
  rw [Bool.eq_iff_iff]
  simp only [beq_iff_eq]
  omega
theorem val_byte (a b : Nat) (ha : a ≤ 3) (hb : b ≤ 3) : IntKind.u8.wrap (97 + IntKind.u8.wrap ((IntKind.i64.wrap ((a : Int) + (b : Int))).tmod 5)) = ((97 + (a + b) % 5 : Nat) : Int) := by
  have key : ∀ a < 4, ∀ b < 4, IntKind.u8.wrap (97 + IntKind.u8.wrap ((IntKind.i64.wrap (((a : Nat) : Int) + ((b : Nat) : Int))).tmod 5)) = ((97 + (a + b) % 5 : Nat) : Int) := by decide +kernel
  exact key a (by omega) b (by omega)
theorem conv1 {w : World} {g : Nat} {n : Nat} (h : w.cell? ⟨g, 0, none⟩ = some (.int .u8 (n : Int))) : (convert 103 9 (.slice (some ⟨g, 0, none⟩) 1 1)).run Try.prog w = .ok (.string (bs [UInt8.ofNat n])) w := by
  have h2 := run_convert_bytes_arg (P := Try.prog) (w := w) 103 5 Try.underlying103 Try.underlying5 g 0 1 1 [(n : Int)] rfl (fun i hi => by
    obtain rfl : i = 0 := by omega
    simpa using h) 9 Try.underlying9
  rw [h2]
  rfl
theorem bs_append (a b : Bs) : bs a ++ bs b = bs (a ++ b) := by
  unfold bs
  apply ByteArray.ext
  simp
theorem bs_take (v : Bs) (k : Nat) : (bs v).extract 0 k = bs (v.take k) := by
  unfold bs
  apply ByteArray.ext
  simp
theorem str_add (a b c : ByteArray) (h : a.size + b.size ≤ 4000000000000000000) (e : a ++ b = c) : Op.stringOp .add a b = pure (.string c) := by
  subst e
  unfold Op.stringOp
  have : ¬ (((a.size + b.size : Nat) : Int) > IntKind.i64.max) := by
    have : IntKind.i64.max = 9223372036854775807 := by decide
    omega
  simp only [if_neg this]
theorem val_eq (x v : Bs) {c : UInt8} (hc : UInt8.ofNat (97 + (x.length + v.length) % 5) = c) : bs [c] ++ (bs v).extract 0 (min (v.length : Int) 2).toNat = bs (val47 x v) := by
  subst hc
  rw [bs_take, bs_append]
  unfold val47
  have h : v.take (min (v.length : Int) 2).toNat = v.take 2 := by
    rw [show (min (v.length : Int) 2).toNat = min 2 v.length by omega, ← List.take_eq_take_min]
  rw [h]
  rfl
theorem own_apart_blk47 {w : World} {base e s n g : Nat} {t : TypeId} {v : Value} {xs : List Value} {cs : Array Value} (h : w.ownsRow base e s v n xs) (hb : Blk w g t cs) (hne : e ≠ t) : some g ≠ v.ownBlock := by
  intro he
  exact own_blk_ne h hb hne he.symm
theorem own_not_mapAt {w : World} {base e s n : Nat} {v : Value} {xs : List Value} {b : Nat} {l : List (Nm × Value)} (h : w.ownsRow base e s v n xs) (hb : MapAt w b l) : v.ownBlock ≠ some b := by
  obtain ⟨es, c, h1, _⟩ := hb
  exact own_not_map h h1
theorem infoCh : (Try.prog.info? 87).map (fun i => (i.zero, i.size, i.bytes)) = some (some (.agg #[.int .i64 0, .string ⟨#[]⟩, .int .i64 0, .int .i64 0, .string ⟨#[]⟩, .string ⟨#[]⟩, .bool false]), 7, 80) := by kernel_rfl
theorem Blk.out_ {w w' : World} {F : Nat → Prop} {g : Nat} {t : TypeId} {cs : Array Value} (h : Blk w g t cs) (ho : Outer F w w') (hF : ¬ F g) : Blk w' g t cs := (ho.block g h.lt hF).trans h
theorem own_out_ {w w' : World} {F : Nat → Prop} {base e s n : Nat} {v : Value} {xs : List Value} (h : w.ownsRow base e s v n xs) (ho : Outer F w w') (hF : ∀ g, v.ownBlock = some g → ¬ F g) : w'.ownsRow base e s v n xs :=
  own_same h fun q hq => by
    obtain ⟨cur, hc⟩ := own_cells_of h hq
    exact ho.block q (Array.getElem?_eq_some_iff.1 hc).1 (hF q hq)
theorem rd_out_ {w w' : World} {F : Nat → Prop} {e n : Nat} {v : Value} {xs : List Value} (h : Rd e w v n xs) (ho : Outer F w w') (hF : ∀ i cs fr, i < w.heap.size → F i → w.heap[i]? ≠ some (.cells cs e fr)) : Rd e w' v n xs := by
  obtain ⟨A, c, rfl, h1, h2, h3⟩ := h
  refine ⟨A, c, rfl, h1, h2, ?_⟩
  rcases h3 with h3 | ⟨b, o, cs, fr, rfl, hb, hx⟩
  · exact .inl h3
  · exact .inr ⟨b, o, cs, fr, rfl, (ho.block b (Array.getElem?_eq_some_iff.1 hb).1 (fun hf => hF b cs fr (Array.getElem?_eq_some_iff.1 hb).1 hf hb)).trans hb, hx⟩
/-- The blocks of a deed's performing: the key, the deed, the result, the action. -/
structure PB (w : World) (k : Ky) (d : De) (wr : World) (ra wa : Value) : Prop where
  fr : Below w.heap.size w wr
  kb : Blk wr w.heap.size 56 #[.int .i64 k.tick, .int .i64 k.cls, .int .i64 k.num, .string (bs k.lin)]
  db : Blk wr (w.heap.size + 1) 62 #[.int .u8 d.who, .int .u8 d.reads, .int .u8 d.writes, .int .u8 d.spawn, .bool d.same]
  rb : Blk wr (w.heap.size + 1 + 1) 59 #[.int .i64 0, .int .i64 0, .int .i64 0, .string ⟨#[]⟩, .slice none 0 0, .slice none 0 0]
  ab : Blk wr (w.heap.size + 1 + 1 + 1) 59 #[.int .i64 k.tick, .int .i64 k.cls, .int .i64 k.num, .string (bs k.lin), ra, wa]
theorem PB.next {w wr w' : World} {k : Ky} {d : De} {ra wa : Value} (h : PB w k d wr ra wa) (hb : Below wr.heap.size wr w') : PB w k d w' ra wa :=
  ⟨h.fr.trans (hb.mono h.fr.size), h.kb.next hb h.kb.lt, h.db.next hb h.db.lt, h.rb.next hb h.rb.lt, h.ab.next hb h.ab.lt⟩
theorem PB.map {w wr w' : World} {k : Ky} {d : De} {ra wa : Value} {b : Nat} {l : List (Nm × Value)} (h : PB w k d wr ra wa) (hm : MapAt wr b l) (hb : wr.grownBy w' (some b)) (hB : w.heap.size ≤ b) : PB w k d w' ra wa :=
  ⟨h.fr.grown hb h.fr.size (fun k hk => by injection hk with hk; omega), h.kb.grown hb (hm.noCells h.kb), h.db.grown hb (hm.noCells h.db), h.rb.grown hb (hm.noCells h.rb), h.ab.grown hb (hm.noCells h.ab)⟩
theorem Blk.newE (w : World) (t : TypeId) (cs : Array Value) (b : Nat) (h : w.heap.size = b) : Blk (w.alloc (.cells cs t)) b t cs := by subst h; exact Blk.new w t cs
theorem perf_start (w : World) (k : Ky) (d : De) : PB w k d (((((w.alloc (.cells #[.int .i64 k.tick, .int .i64 k.cls, .int .i64 k.num, .string (bs k.lin)] 56)).alloc (.cells #[.int .u8 d.who, .int .u8 d.reads, .int .u8 d.writes, .int .u8 d.spawn, .bool d.same] 62)).alloc (.cells #[.int .i64 0, .int .i64 0, .int .i64 0, .string ⟨#[]⟩, .slice none 0 0, .slice none 0 0] 59)).alloc (.cells #[.int .i64 k.tick, .int .i64 k.cls, .int .i64 k.num, .string (bs k.lin), .slice none 0 0, .slice none 0 0] 59)).alloc (.map #[] 0)) (.slice none 0 0) (.slice none 0 0) ∧ BMap (((((w.alloc (.cells #[.int .i64 k.tick, .int .i64 k.cls, .int .i64 k.num, .string (bs k.lin)] 56)).alloc (.cells #[.int .u8 d.who, .int .u8 d.reads, .int .u8 d.writes, .int .u8 d.spawn, .bool d.same] 62)).alloc (.cells #[.int .i64 0, .int .i64 0, .int .i64 0, .string ⟨#[]⟩, .slice none 0 0, .slice none 0 0] 59)).alloc (.cells #[.int .i64 k.tick, .int .i64 k.cls, .int .i64 k.num, .string (bs k.lin), .slice none 0 0, .slice none 0 0] 59)).alloc (.map #[] 0)) (w.heap.size + 1 + 1 + 1 + 1) [] := by
  have b0 := ((((((Below.refl w.heap.size w).alloc (Nat.le_refl _) (.cells #[.int .i64 k.tick, .int .i64 k.cls, .int .i64 k.num, .string (bs k.lin)] 56)).alloc (by try simp only [World.size_alloc] <;> omega) (.cells #[.int .u8 d.who, .int .u8 d.reads, .int .u8 d.writes, .int .u8 d.spawn, .bool d.same] 62)).alloc (by try simp only [World.size_alloc] <;> omega) (.cells #[.int .i64 0, .int .i64 0, .int .i64 0, .string ⟨#[]⟩, .slice none 0 0, .slice none 0 0] 59)).alloc (by try simp only [World.size_alloc] <;> omega) (.cells #[.int .i64 k.tick, .int .i64 k.cls, .int .i64 k.num, .string (bs k.lin), .slice none 0 0, .slice none 0 0] 59)).alloc (by try simp only [World.size_alloc] <;> omega) (.map #[] 0))
  refine ⟨⟨b0, (Blk.newE w 56 #[.int .i64 k.tick, .int .i64 k.cls, .int .i64 k.num, .string (bs k.lin)] (w.heap.size) (by try simp only [World.size_alloc])).next (((((Below.refl (w.alloc (.cells #[.int .i64 k.tick, .int .i64 k.cls, .int .i64 k.num, .string (bs k.lin)] 56)).heap.size (w.alloc (.cells #[.int .i64 k.tick, .int .i64 k.cls, .int .i64 k.num, .string (bs k.lin)] 56))).alloc (Nat.le_refl _) (.cells #[.int .u8 d.who, .int .u8 d.reads, .int .u8 d.writes, .int .u8 d.spawn, .bool d.same] 62)).alloc (by try simp only [World.size_alloc] <;> omega) (.cells #[.int .i64 0, .int .i64 0, .int .i64 0, .string ⟨#[]⟩, .slice none 0 0, .slice none 0 0] 59)).alloc (by try simp only [World.size_alloc] <;> omega) (.cells #[.int .i64 k.tick, .int .i64 k.cls, .int .i64 k.num, .string (bs k.lin), .slice none 0 0, .slice none 0 0] 59)).alloc (by try simp only [World.size_alloc] <;> omega) (.map #[] 0)) (Blk.newE w 56 #[.int .i64 k.tick, .int .i64 k.cls, .int .i64 k.num, .string (bs k.lin)] (w.heap.size) (by try simp only [World.size_alloc])).lt, (Blk.newE (w.alloc (.cells #[.int .i64 k.tick, .int .i64 k.cls, .int .i64 k.num, .string (bs k.lin)] 56)) 62 #[.int .u8 d.who, .int .u8 d.reads, .int .u8 d.writes, .int .u8 d.spawn, .bool d.same] (w.heap.size + 1) (by try simp only [World.size_alloc])).next ((((Below.refl ((w.alloc (.cells #[.int .i64 k.tick, .int .i64 k.cls, .int .i64 k.num, .string (bs k.lin)] 56)).alloc (.cells #[.int .u8 d.who, .int .u8 d.reads, .int .u8 d.writes, .int .u8 d.spawn, .bool d.same] 62)).heap.size ((w.alloc (.cells #[.int .i64 k.tick, .int .i64 k.cls, .int .i64 k.num, .string (bs k.lin)] 56)).alloc (.cells #[.int .u8 d.who, .int .u8 d.reads, .int .u8 d.writes, .int .u8 d.spawn, .bool d.same] 62))).alloc (Nat.le_refl _) (.cells #[.int .i64 0, .int .i64 0, .int .i64 0, .string ⟨#[]⟩, .slice none 0 0, .slice none 0 0] 59)).alloc (by try simp only [World.size_alloc] <;> omega) (.cells #[.int .i64 k.tick, .int .i64 k.cls, .int .i64 k.num, .string (bs k.lin), .slice none 0 0, .slice none 0 0] 59)).alloc (by try simp only [World.size_alloc] <;> omega) (.map #[] 0)) (Blk.newE (w.alloc (.cells #[.int .i64 k.tick, .int .i64 k.cls, .int .i64 k.num, .string (bs k.lin)] 56)) 62 #[.int .u8 d.who, .int .u8 d.reads, .int .u8 d.writes, .int .u8 d.spawn, .bool d.same] (w.heap.size + 1) (by try simp only [World.size_alloc])).lt, (Blk.newE ((w.alloc (.cells #[.int .i64 k.tick, .int .i64 k.cls, .int .i64 k.num, .string (bs k.lin)] 56)).alloc (.cells #[.int .u8 d.who, .int .u8 d.reads, .int .u8 d.writes, .int .u8 d.spawn, .bool d.same] 62)) 59 #[.int .i64 0, .int .i64 0, .int .i64 0, .string ⟨#[]⟩, .slice none 0 0, .slice none 0 0] (w.heap.size + 1 + 1) (by try simp only [World.size_alloc])).next (((Below.refl (((w.alloc (.cells #[.int .i64 k.tick, .int .i64 k.cls, .int .i64 k.num, .string (bs k.lin)] 56)).alloc (.cells #[.int .u8 d.who, .int .u8 d.reads, .int .u8 d.writes, .int .u8 d.spawn, .bool d.same] 62)).alloc (.cells #[.int .i64 0, .int .i64 0, .int .i64 0, .string ⟨#[]⟩, .slice none 0 0, .slice none 0 0] 59)).heap.size (((w.alloc (.cells #[.int .i64 k.tick, .int .i64 k.cls, .int .i64 k.num, .string (bs k.lin)] 56)).alloc (.cells #[.int .u8 d.who, .int .u8 d.reads, .int .u8 d.writes, .int .u8 d.spawn, .bool d.same] 62)).alloc (.cells #[.int .i64 0, .int .i64 0, .int .i64 0, .string ⟨#[]⟩, .slice none 0 0, .slice none 0 0] 59))).alloc (Nat.le_refl _) (.cells #[.int .i64 k.tick, .int .i64 k.cls, .int .i64 k.num, .string (bs k.lin), .slice none 0 0, .slice none 0 0] 59)).alloc (by try simp only [World.size_alloc] <;> omega) (.map #[] 0)) (Blk.newE ((w.alloc (.cells #[.int .i64 k.tick, .int .i64 k.cls, .int .i64 k.num, .string (bs k.lin)] 56)).alloc (.cells #[.int .u8 d.who, .int .u8 d.reads, .int .u8 d.writes, .int .u8 d.spawn, .bool d.same] 62)) 59 #[.int .i64 0, .int .i64 0, .int .i64 0, .string ⟨#[]⟩, .slice none 0 0, .slice none 0 0] (w.heap.size + 1 + 1) (by try simp only [World.size_alloc])).lt, (Blk.newE (((w.alloc (.cells #[.int .i64 k.tick, .int .i64 k.cls, .int .i64 k.num, .string (bs k.lin)] 56)).alloc (.cells #[.int .u8 d.who, .int .u8 d.reads, .int .u8 d.writes, .int .u8 d.spawn, .bool d.same] 62)).alloc (.cells #[.int .i64 0, .int .i64 0, .int .i64 0, .string ⟨#[]⟩, .slice none 0 0, .slice none 0 0] 59)) 59 #[.int .i64 k.tick, .int .i64 k.cls, .int .i64 k.num, .string (bs k.lin), .slice none 0 0, .slice none 0 0] (w.heap.size + 1 + 1 + 1) (by try simp only [World.size_alloc])).next ((Below.refl ((((w.alloc (.cells #[.int .i64 k.tick, .int .i64 k.cls, .int .i64 k.num, .string (bs k.lin)] 56)).alloc (.cells #[.int .u8 d.who, .int .u8 d.reads, .int .u8 d.writes, .int .u8 d.spawn, .bool d.same] 62)).alloc (.cells #[.int .i64 0, .int .i64 0, .int .i64 0, .string ⟨#[]⟩, .slice none 0 0, .slice none 0 0] 59)).alloc (.cells #[.int .i64 k.tick, .int .i64 k.cls, .int .i64 k.num, .string (bs k.lin), .slice none 0 0, .slice none 0 0] 59)).heap.size ((((w.alloc (.cells #[.int .i64 k.tick, .int .i64 k.cls, .int .i64 k.num, .string (bs k.lin)] 56)).alloc (.cells #[.int .u8 d.who, .int .u8 d.reads, .int .u8 d.writes, .int .u8 d.spawn, .bool d.same] 62)).alloc (.cells #[.int .i64 0, .int .i64 0, .int .i64 0, .string ⟨#[]⟩, .slice none 0 0, .slice none 0 0] 59)).alloc (.cells #[.int .i64 k.tick, .int .i64 k.cls, .int .i64 k.num, .string (bs k.lin), .slice none 0 0, .slice none 0 0] 59))).alloc (Nat.le_refl _) (.map #[] 0)) (Blk.newE (((w.alloc (.cells #[.int .i64 k.tick, .int .i64 k.cls, .int .i64 k.num, .string (bs k.lin)] 56)).alloc (.cells #[.int .u8 d.who, .int .u8 d.reads, .int .u8 d.writes, .int .u8 d.spawn, .bool d.same] 62)).alloc (.cells #[.int .i64 0, .int .i64 0, .int .i64 0, .string ⟨#[]⟩, .slice none 0 0, .slice none 0 0] 59)) 59 #[.int .i64 k.tick, .int .i64 k.cls, .int .i64 k.num, .string (bs k.lin), .slice none 0 0, .slice none 0 0] (w.heap.size + 1 + 1 + 1) (by try simp only [World.size_alloc])).lt⟩, ?_⟩
  have h := MapAt.new ((((w.alloc (.cells #[.int .i64 k.tick, .int .i64 k.cls, .int .i64 k.num, .string (bs k.lin)] 56)).alloc (.cells #[.int .u8 d.who, .int .u8 d.reads, .int .u8 d.writes, .int .u8 d.spawn, .bool d.same] 62)).alloc (.cells #[.int .i64 0, .int .i64 0, .int .i64 0, .string ⟨#[]⟩, .slice none 0 0, .slice none 0 0] 59)).alloc (.cells #[.int .i64 k.tick, .int .i64 k.cls, .int .i64 k.num, .string (bs k.lin), .slice none 0 0, .slice none 0 0] 59))
  rw [show ((((w.alloc (.cells #[.int .i64 k.tick, .int .i64 k.cls, .int .i64 k.num, .string (bs k.lin)] 56)).alloc (.cells #[.int .u8 d.who, .int .u8 d.reads, .int .u8 d.writes, .int .u8 d.spawn, .bool d.same] 62)).alloc (.cells #[.int .i64 0, .int .i64 0, .int .i64 0, .string ⟨#[]⟩, .slice none 0 0, .slice none 0 0] 59)).alloc (.cells #[.int .i64 k.tick, .int .i64 k.cls, .int .i64 k.num, .string (bs k.lin), .slice none 0 0, .slice none 0 0] 59)).heap.size = w.heap.size + 1 + 1 + 1 + 1 by simp only [World.size_alloc]] at h
  exact h
def p1Rel (w : World) (s : S47) (k : Ky) (d : De) (t8 t9 t10 i : Value) (wr : World) : Prop := ∃ m : Nat, m ≤ 6 ∧ i = .int .i64 m ∧ t8 = .string (bs (rdTo s k d m).value) ∧ t9 = .bool (rdTo s k d m).first ∧ t10 = .bool (rdTo s k d m).all ∧ PB w k d wr (.slice none 0 0) (.slice none 0 0) ∧ BMap wr (w.heap.size + 1 + 1 + 1 + 1) (rdTo s k d m).names
def p2Rel (w : World) (s : S47) (k : Ky) (d : De) (mb : Nat) (i : Value) (wr : World) : Prop := ∃ m : Nat, m ≤ 6 ∧ i = .int .i64 m ∧ PB w k d wr (.slice none 0 0) (.slice none 0 0) ∧ BMap wr (w.heap.size + 1 + 1 + 1 + 1) (rdA s k d).names ∧ SMapL wr mb (wrTo d (rdA s k d) m)
theorem set6_ {w : World} {g : Nat} {t : TypeId} {z0 z1 z2 z3 z4 z5 : Value} (v0 v1 v2 v3 v4 v5 : Value) (h : Blk w g t #[z0, z1, z2, z3, z4, z5]) : Blk ((((((w.setCell ⟨g, 0, none⟩ v0).setCell ⟨g, 1, none⟩ v1).setCell ⟨g, 2, none⟩ v2).setCell ⟨g, 3, none⟩ v3).setCell ⟨g, 4, none⟩ v4).setCell ⟨g, 5, none⟩ v5) g t #[v0, v1, v2, v3, v4, v5] ∧ w.grownBy ((((((w.setCell ⟨g, 0, none⟩ v0).setCell ⟨g, 1, none⟩ v1).setCell ⟨g, 2, none⟩ v2).setCell ⟨g, 3, none⟩ v3).setCell ⟨g, 4, none⟩ v4).setCell ⟨g, 5, none⟩ v5) (some g) := by
  refine ⟨?_, ?_⟩
  · have := (((((h.set_ 0 v0).set_ 1 v1).set_ 2 v2).set_ 3 v3).set_ 4 v4).set_ 5 v5
    simpa using this
  · have g0 := only_setCell (g := g) (p := ⟨g, 0, none⟩) (only_of_below (Below.refl w.heap.size w) (some g)) (.inl rfl) v0
    have g1 := only_setCell (g := g) (p := ⟨g, 1, none⟩) g0 (.inl rfl) v1
    have g2 := only_setCell (g := g) (p := ⟨g, 2, none⟩) g1 (.inl rfl) v2
    have g3 := only_setCell (g := g) (p := ⟨g, 3, none⟩) g2 (.inl rfl) v3
    have g4 := only_setCell (g := g) (p := ⟨g, 4, none⟩) g3 (.inl rfl) v4
    exact only_setCell (g := g) (p := ⟨g, 5, none⟩) g4 (.inl rfl) v5
def F47 (b B : Nat) : Nat → Prop := fun i => i = b ∨ B ≤ i
theorem out_step {F : Nat → Prop} {a b c : World} (h : Outer F a b) (k : Outer F b c) : Outer F a c := h.trans (k.mono fun _ h => .inl h)
theorem out_next {b B : Nat} {a c w' : World} (h : Outer (F47 b B) a c) (hb : Below c.heap.size c w') : Outer (F47 b B) a w' := out_step h (Outer.of_below hb)
theorem f47_cells {b B : Nat} {w : World} {t : TypeId} {cs : Array Value} {e : Nat} (hb : Blk w b t cs) (hne : e ≠ t) (hB : w.heap.size ≤ B) : ∀ i cs fr, i < w.heap.size → F47 b B i → w.heap[i]? ≠ some (.cells cs e fr) := by
  intro i cs' fr hi hf hc
  rcases hf with rfl | hf
  · unfold Blk at hb
    rw [hb] at hc
    injection hc with hc
    injection hc with _ hc _
    exact hne hc.symm
  · omega
theorem lookM_app47 {κ ν : Type} [DecidableEq κ] (m : κ) : ∀ (a b : List (κ × ν)), lookM m (a ++ b) = match lookM m a with | some v => some v | none => lookM m b
  | [], b => rfl
  | (n, x) :: a, b => by
    simp only [List.cons_append, lookM]
    by_cases h : n = m
    · simp [h]
    · simp only [if_neg h]
      exact lookM_app47 m a b
theorem lookM_none47 {κ ν : Type} [DecidableEq κ] {n : κ} : ∀ {l : List (κ × ν)}, (∀ p ∈ l, p.1 ≠ n) → lookM n l = none
  | [], _ => rfl
  | (a, x) :: l, h => by
    simp only [lookM]
    rw [if_neg (h (a, x) (by simp))]
    exact lookM_none47 fun p hp => h p (by simp [hp])
theorem putS_snoc (s : S47) (seen : List (Nm × Bs)) (n : Nm) (x : Bs) (h : ∀ p ∈ seen, p.1 ≠ n) (m : Nm) : (if n = m then some x else putS s seen m) = putS s (seen ++ [(n, x)]) m := by
  unfold putS
  rw [lookM_app47]
  by_cases e : n = m
  · subst e
    rw [if_pos rfl, lookM_none47 h]
    simp [lookM]
  · rw [if_neg e]
    cases lookM m seen with
    | some v => rfl
    | none => simp [lookM, e]
theorem mem_look47 {κ ν : Type} [DecidableEq κ] {n : κ} {x : ν} : ∀ {l : List (κ × ν)}, (l.Pairwise fun p q => p.1 ≠ q.1) → (n, x) ∈ l → lookM n l = some x
  | (a, y) :: l, hp, h => by
    have h1 := List.pairwise_cons.1 hp
    simp only [lookM]
    rcases List.mem_cons.1 h with h | h
    · injection h with h2 h3
      rw [if_pos h2.symm, h3]
    · rw [if_neg (fun e => h1.1 (n, x) h e)]
      exact mem_look47 h1.2 h
def encS (p : Nm × Bs) : Nm × Value := (p.1, .string (bs p.2))
theorem encS_inj {p q : Nm × Bs} (h : encS p = encS q) : p = q := by
  unfold encS at h
  obtain ⟨a, x⟩ := p
  obtain ⟨b, y⟩ := q
  simp only [Prod.mk.injEq, Value.string.injEq] at h ⊢
  exact ⟨h.1, bs_inj h.2⟩
theorem put_done (s : S47) {seen W : List (Nm × Bs)} (h : (seen.map encS).Perm (W.map encS)) (hW : W.Pairwise fun p q => p.1 ≠ q.1) (n : Nm) : putS s seen n = putS s W n := by
  have hm : ∀ p, p ∈ seen ↔ p ∈ W := fun p => by
    have := h.mem_iff (a := encS p)
    constructor
    · intro hp
      obtain ⟨q, hq, e⟩ := List.mem_map.1 (this.1 (List.mem_map.2 ⟨p, hp, rfl⟩))
      rw [← encS_inj e]; exact hq
    · intro hp
      obtain ⟨q, hq, e⟩ := List.mem_map.1 (this.2 (List.mem_map.2 ⟨p, hp, rfl⟩))
      rw [← encS_inj e]; exact hq
  have hk : (seen.map Prod.fst).Nodup := by
    have h1 : (seen.map Prod.fst).Perm (W.map Prod.fst) := by
      have := h.map Prod.fst
      rw [List.map_map, List.map_map] at this
      exact this
    rw [h1.nodup_iff]
    unfold List.Nodup
    rw [List.pairwise_map]
    exact hW
  have hS : seen.Pairwise fun p q => p.1 ≠ q.1 := by
    unfold List.Nodup at hk
    rw [List.pairwise_map] at hk
    exact hk
  have hl : lookM n seen = lookM n W := by
    apply Option.ext
    intro x
    constructor
    · intro h1
      exact mem_look47 hW ((hm _).1 (look_mem h1))
    · intro h1
      exact mem_look47 hS ((hm _).2 (look_mem h1))
  unfold putS
  rw [hl]
theorem SMap.congr {w : World} {b : Nat} {s s' : S47} (h : SMap w b s) (e : ∀ n, s n = s' n) : SMap w b s' := by
  obtain ⟨l, h1, h2⟩ := h
  exact ⟨l, h1, fun n => (h2 n).trans (e n)⟩
theorem SMap.isMap {w : World} {b : Nat} {s : S47} (h : SMap w b s) {cs : Array Value} {t : TypeId} {fr : Nat × Nat} : w.heap[b]? ≠ some (.cells cs t fr) := by
  obtain ⟨l, ⟨es, c, h1, _⟩, _⟩ := h
  rw [h1]
  intro e
  cases e
def p5Rel (wD : World) (sb mw r : Nat) (s : S47) (ents : List (Nm × Value)) (wr : World) : Prop := ∃ (seen : List (Nm × Bs)) (left : List (Nm × Value)), MapIt wr mw r ents left ∧ (seen.map encS ++ left).Perm ents ∧ SMap wr sb (putS s seen) ∧ Outer (F47 sb wD.heap.size) wD wr
def p4Rel (w wB : World) (s : S47) (k : Ky) (d : De) (rv : Value) (T : List Nm) (i : Value) (wr : World) : Prop := ∃ m : Nat, m ≤ T.length ∧ i = .int .i64 m ∧ ∃ wv, Outer (F47 (w.heap.size + 1 + 1 + 1) wB.heap.size) wB wr ∧ Blk wr (w.heap.size + 1 + 1 + 1) 59 #[.int .i64 k.tick, .int .i64 k.cls, .int .i64 k.num, .string (bs k.lin), rv, wv] ∧ OwnP 87 7 chC wr wB.heap.size wv ((T.take m).map (wrC (wrs s k d)))
def p3Rel (w : World) (s : S47) (k : Ky) (d : De) (mb : Nat) (S : List Nm) (v i : Value) (wr : World) : Prop := ∃ m : Nat, m ≤ S.length ∧ i = .int .i64 m ∧ ∃ rv, PB w k d wr rv (.slice none 0 0) ∧ OwnP 87 7 chC wr w.heap.size rv ((S.take m).map (rdC s)) ∧ SMapL wr mb (wrs s k d) ∧ RdNm wr v S
set_option maxRecDepth 100000 in
set_option maxHeartbeats 40000000 in
theorem perform_is {w : World} {sb : Nat} {s : S47} {k : Ky} {d : De} (hs : SMap w sb s) (hp : PIn s k d) : Calls Try.prog 22 #[.map (some sb), kyV k, .agg #[.int .u8 d.who, .int .u8 d.reads, .int .u8 d.writes, .int .u8 d.spawn, .bool d.same]] w fun e w' => ∃ u1 u2, e = .returned (.agg #[.int .i64 (prf s k d).key.tick, .int .i64 (prf s k d).key.cls, .int .i64 (prf s k d).key.num, .string (bs (prf s k d).key.lin), u1, u2]) ∧ NAc w' (u1, u2) (prf s k d) ∧ SMap w' sb (nxtS s k d) ∧ Outer (fun i => i = sb) w w' := by
  have HS := Lib.hid hs
  have HP := Lib.hid hp
  have hmm := @run_makeMap Try.prog
  unfold kyV
  clear hs hp
  go_enter Try.func22, Try.ntmps22
  go_upto_region 5 with (fail)
  obtain ⟨hPB, hBM⟩ := perf_start w k d
  have P0 := Lib.hid hPB
  have M0 := Lib.hid hBM
  clear hPB hBM
  generalize (((((w.alloc (.cells #[.int .i64 k.tick, .int .i64 k.cls, .int .i64 k.num, .string (bs k.lin)] 56)).alloc (.cells #[.int .u8 d.who, .int .u8 d.reads, .int .u8 d.writes, .int .u8 d.spawn, .bool d.same] 62)).alloc (.cells #[.int .i64 0, .int .i64 0, .int .i64 0, .string ⟨#[]⟩, .slice none 0 0, .slice none 0 0] 59)).alloc (.cells #[.int .i64 k.tick, .int .i64 k.cls, .int .i64 k.num, .string (bs k.lin), .slice none 0 0, .slice none 0 0] 59)).alloc (.map #[] 0)) = W5 at *
  have x1 := P0.out.kb.cell 1
  have x3 := P0.out.kb.cell 3
  simp only [List.getElem?_toArray, List.getElem?_cons_zero, List.getElem?_cons_succ] at x1 x3
  go_upto_if 31 with (fail)
  go_cut [11] (fun v wx => v = .map (some (w.heap.size + 1 + 1 + 1 + 1)) ∧ PB w k d wx (.slice none 0 0) (.slice none 0 0) ∧ BMap wx (w.heap.size + 1 + 1 + 1 + 1) (rd0 k).names)
  case first =>
    rcases HP.out.ky with ⟨h0, h1⟩ | ⟨h0, h1⟩
    · have e1 : (k.cls != 0) = false := by rw [h0]; rfl
      have HN := Lib.hid (show (rd0 k).names = [] by unfold rd0; rw [if_pos h0])
      clear h0 h1
      go_wp2_with fail
      go_meet
      case rel => exact ⟨rfl, P0.out, by rw [HN.out]; exact M0.out⟩
    · have e1 : (k.cls != 0) = true := by rw [h0]; rfl
      have HN := Lib.hid (show (rd0 k).names = addN [] (prcN k.lin) by unfold rd0; rw [if_neg (by rw [h0]; decide)]; rfl)
      clear h0 h1
      go_wp2_with fail
      go_at_call 17
      refine (ofproc_is _ _).mono ?_
      rintro e w1 ⟨rfl, hb⟩
      obtain ⟨w2, hput, hbm, hg⟩ := (M0.out.next hb).put (prcN k.lin)
      have P2 := Lib.hid ((P0.out.next hb).map (M0.out.next hb) hg (by omega))
      have M2 := Lib.hid hbm
      clear hb hbm hg
      go_wp2_with fail
      go_meet
      case rel => exact ⟨rfl, P2.out, by rw [HN.out]; exact M2.out⟩
  case rest =>
  obtain ⟨rfl, hPB, hBM⟩ := hcut
  have P1 := Lib.hid hPB
  have M1 := Lib.hid hBM
  clear hPB hBM x1 x3 P0 M0
  have H0 : Hid (p1Rel w s k d (.string ⟨#[118]⟩) (.bool true) (.bool true) (.int .i64 (0 : Nat)) wc) := Lib.hid ⟨0, by omega, rfl, rfl, rfl, rfl, P1.out, M1.out⟩
  clear P1 M1
  go_wp2_with fail
  go_loopw [8, 9, 10, 12] (fun t8 t9 t10 i wr => p1Rel w s k d t8 t9 t10 i wr) (fun _ _ _ i _ => 6 - (intOf i).toNat)
  case atStart => exact H0.out
  case round =>
    clear H0
    obtain ⟨m, hm6, rfl, rfl, rfl, rfl, hPB, hBM⟩ := hrel
    have P1 := Lib.hid hPB
    have M1 := Lib.hid hBM
    clear hPB hBM
    obtain ⟨st, hst⟩ : ∃ st, rdTo s k d m = st := ⟨_, rfl⟩
    have HST := Lib.hid hst
    have HSU := Lib.hid (rdTo_succ s k d m)
    have HVL := Lib.hid (rdTo_len s k d m)
    rw [hst] at M1 HSU HVL ⊢
    clear hst
    obtain ⟨vv, fi, al, nms⟩ := st
    simp only at M1 HVL ⊢
    by_cases hm : m < 6
    · have j0 : (0 : Int) ≤ (m : Int) := by omega
      have j1 : (m : Int) < 6 := by omega
      have j2 : decide ((m : Int) < 6) = true := decide_eq_true j1
      have x1 := P1.out.db.cell 1
      have x4 := P1.out.db.cell 4
      simp only [List.getElem?_toArray, List.getElem?_cons_zero, List.getElem?_cons_succ] at x1 x4
      have hbb := bits_bit d.reads m
      cases hbt : bitN d.reads m with
      | false =>
        have hb0 : (bits BinOp.and IntKind.u8 ((d.reads : Int) / 2 ^ m) 1 == 0) = true := by rw [hbb, hbt]; rfl
        have HR1 := Lib.hid (show rdTo s k d (m + 1) = ⟨vv, fi, al, nms⟩ by rw [HSU.out]; unfold rd1; rw [if_pos (.inl hbt)])
        clear hbt hbb
        go_wp2_with fail
        go_roundw
        case rel => exact ⟨m + 1, by omega, by go_num, by rw [HR1.out], by rw [HR1.out], by rw [HR1.out], P1.out, by rw [HR1.out]; exact M1.out⟩
        case measure => simp [intOf]; omega
      | true =>
        have hb0 : (bits BinOp.and IntKind.u8 ((d.reads : Int) / 2 ^ m) 1 == 0) = false := by rw [hbb, hbt]; rfl
        cases al with
        | false =>
          have HR1 := Lib.hid (show rdTo s k d (m + 1) = ⟨vv, fi, false, nms⟩ by rw [HSU.out]; unfold rd1; rw [if_pos (.inr rfl)])
          clear hbt hbb
          go_wp2_with fail
          go_roundw
          case rel => exact ⟨m + 1, by omega, by go_num, by rw [HR1.out], by rw [HR1.out], by rw [HR1.out], P1.out, by rw [HR1.out]; exact M1.out⟩
          case measure => simp [intOf]; omega
        | true =>
          obtain ⟨x, hx⟩ : ∃ x, (s (prtN (1 + (m : Nat)))).getD [] = x := ⟨_, rfl⟩
          have hxl : x.length ≤ 3 := by rw [← hx]; exact HP.out.vl _
          obtain ⟨al2, hal2⟩ : ∃ q, (if fi then x.length % 2 == 1 else true) = q := ⟨_, rfl⟩
          have HR1 := Lib.hid (show rdTo s k d (m + 1) = ⟨if d.same then vv else val47 x vv, false, al2, addN nms (prtN (1 + (m : Nat)))⟩ by
            rw [HSU.out, ← hal2]
            unfold rd1
            rw [if_neg (by simp [hbt])]
            simp only [hx])
          have HAL2 := Lib.hid hal2
          clear hal2
          have HLK := Lib.hid (fun W (h : SMap W sb s) => h.look (prtN (1 + (m : Nat))) hx)
          clear hbt hbb hx
          go_upto_region 11 with (fail)
          go_wp2_with fail
          go_at_call 16
          refine (port_is m j0 (by omega) _).mono ?_
          rintro e w1 ⟨rfl, hb⟩
          have hlk := HLK.out w1 ((HS.out.next P1.out.fr).next hb)
          have P2 := Lib.hid (P1.out.next hb)
          have M2 := Lib.hid (M1.out.next hb)
          clear hb x1 x4 hb0
          go_wp2_with fail
          clear hlk
          go_at_call 16
          refine (port_is m j0 (by omega) _).mono ?_
          rintro e w2 ⟨rfl, hb⟩
          obtain ⟨w3, hput, hbm, hg⟩ := (M2.out.next hb).put (prtN (1 + (m : Nat)))
          have P3 := Lib.hid ((P2.out.next hb).map (M2.out.next hb) hg (by omega))
          have M3 := Lib.hid hbm
          clear hb hbm hg P1 P2 M1 M2
          go_upto_if 57 with (fail)
          clear hput
          have em : Int.tmod (x.length : Int) 2 = ((x.length % 2 : Nat) : Int) := by rw [Int.tmod_eq_emod_of_nonneg (by omega)]; rfl
          have hbx := bs_size x
          go_cut [9, 10] (fun v9 v10 wx => v9 = .bool false ∧ v10 = .bool al2 ∧ w3 = wx)
          case first =>
            cases fi with
            | true =>
              go_wp2_with fail
              go_meet
              case rel => exact ⟨rfl, by rw [par_is, ← HAL2.out]; rfl, rfl⟩
            | false =>
              go_wp2_with fail
              go_meet
              case rel => exact ⟨rfl, by rw [← HAL2.out]; rfl, rfl⟩
          case rest =>
          obtain ⟨rfl, rfl, rfl⟩ := hcut
          clear em
          have x4 := P3.out.db.cell 4
          simp only [List.getElem?_toArray, List.getElem?_cons_zero, List.getElem?_cons_succ] at x4
          obtain ⟨sm, hsm⟩ : ∃ sm, d.same = sm := ⟨_, rfl⟩
          rw [hsm] at x4
          have HSM := Lib.hid hsm
          clear hsm
          cases sm with
          | true =>
            clear hbx
            go_wp2_with fail
            go_roundw
            case rel => exact ⟨m + 1, by omega, by go_num, by rw [HR1.out, if_pos HSM.out], by rw [HR1.out], by rw [HR1.out], P3.out, by rw [HR1.out]; exact M3.out⟩
            case measure => simp [intOf]; omega
          | false =>
            go_upto_region 16 with (fail)
            clear x4
            have hby := bs_size vv
            have hvl := HVL.out
            refine wp_region_noPanic ?_
            refine wp_region_held_drew (S := (fun (w' : World) => 0 ≤ w'.heap.size)) (by kernel_rfl) ?_ (fun hHeld => ?_)
            · exact Nat.zero_le _
            refine wpAnyH_take (i := 0) (v := ?_) rfl (by kernel_rfl) (by kernel_rfl) (by kernel_rfl) (fun _ _ _ h => h) (Or.inl ⟨by kernel_rfl, ?_⟩) hHeld ?_
            rotate_left
            · (intro w hSw; (try dsimp only at hSw); go_simp; try with_reducible rfl)
            try simp only [Act.put, List.setIfInBounds_toArray, List.set_cons_zero, List.set_cons_succ]
            refine wpAnyH_take (i := 1) (v := ?_) rfl (by kernel_rfl) (by kernel_rfl) (by kernel_rfl) (fun _ _ _ h => h) (Or.inl ⟨by kernel_rfl, ?_⟩) hHeld ?_
            rotate_left
            · (intro w hSw; (try dsimp only at hSw); go_simp; try with_reducible rfl)
            try simp only [Act.put, List.setIfInBounds_toArray, List.set_cons_zero, List.set_cons_succ]
            refine wpAnyH_take (i := 2) (v := ?_) rfl (by kernel_rfl) (by kernel_rfl) (by kernel_rfl) (fun _ _ _ h => h) (Or.inl ⟨by kernel_rfl, ?_⟩) hHeld ?_
            rotate_left
            · (intro w hSw; (try dsimp only at hSw); go_simp; try with_reducible rfl)
            try simp only [Act.put, List.setIfInBounds_toArray, List.set_cons_zero, List.set_cons_succ]
            refine wpAnyH_take (i := 3) (v := ?_) rfl (by kernel_rfl) (by kernel_rfl) (by kernel_rfl) (fun _ _ _ h => h) (Or.inl ⟨by kernel_rfl, ?_⟩) hHeld ?_
            rotate_left
            · (intro w hSw; (try dsimp only at hSw); go_simp; try with_reducible rfl)
            try simp only [Act.put, List.setIfInBounds_toArray, List.set_cons_zero, List.set_cons_succ]
            refine wpAnyH_take (i := 4) (v := ?_) rfl (by kernel_rfl) (by kernel_rfl) (by kernel_rfl) (fun _ _ _ h => h) (Or.inl ⟨by kernel_rfl, ?_⟩) hHeld ?_
            rotate_left
            · (intro w hSw; (try dsimp only at hSw); go_simp; try with_reducible rfl)
            try simp only [Act.put, List.setIfInBounds_toArray, List.set_cons_zero, List.set_cons_succ]
            refine wpAnyH_take (i := 5) (v := ?_) rfl (by kernel_rfl) (by kernel_rfl) (by kernel_rfl) (fun _ _ _ h => h) (Or.inl ⟨by kernel_rfl, ?_⟩) hHeld ?_
            rotate_left
            · (intro w hSw; (try dsimp only at hSw); go_simp; try with_reducible rfl)
            try simp only [Act.put, List.setIfInBounds_toArray, List.set_cons_zero, List.set_cons_succ]
            refine wpAnyH_take (i := 6) (v := ?_) rfl (by kernel_rfl) (by kernel_rfl) (by kernel_rfl) (fun _ _ _ h => h) (Or.inl ⟨by kernel_rfl, ?_⟩) hHeld ?_
            rotate_left
            · (intro w hSw; (try dsimp only at hSw); go_simp; try with_reducible rfl)
            try simp only [Act.put, List.setIfInBounds_toArray, List.set_cons_zero, List.set_cons_succ]
            refine wpAnyH_take (i := 7) (v := ?_) rfl (by kernel_rfl) (by kernel_rfl) (by kernel_rfl) (fun _ _ _ h => h) (Or.inl ⟨by kernel_rfl, ?_⟩) hHeld ?_
            rotate_left
            · (intro w hSw; (try dsimp only at hSw); go_simp; try with_reducible rfl)
            try simp only [Act.put, List.setIfInBounds_toArray, List.set_cons_zero, List.set_cons_succ]
            refine wpAnyH_take (i := 10) (v := ?_) rfl (by kernel_rfl) (by kernel_rfl) (by kernel_rfl) (fun _ _ _ h => h) (Or.inl ⟨by kernel_rfl, ?_⟩) hHeld ?_
            rotate_left
            · (intro w hSw; (try dsimp only at hSw); go_simp; try with_reducible rfl)
            try simp only [Act.put, List.setIfInBounds_toArray, List.set_cons_zero, List.set_cons_succ]
            refine wpAnyH_take (i := 11) (v := ?_) rfl (by kernel_rfl) (by kernel_rfl) (by kernel_rfl) (fun _ _ _ h => h) (Or.inl ⟨by kernel_rfl, ?_⟩) hHeld ?_
            rotate_left
            · (intro w hSw; (try dsimp only at hSw); go_simp; try with_reducible rfl)
            try simp only [Act.put, List.setIfInBounds_toArray, List.set_cons_zero, List.set_cons_succ]
            refine wpAnyH_take (i := 12) (v := ?_) rfl (by kernel_rfl) (by kernel_rfl) (by kernel_rfl) (fun _ _ _ h => h) (Or.inl ⟨by kernel_rfl, ?_⟩) hHeld ?_
            rotate_left
            · (intro w hSw; (try dsimp only at hSw); go_simp; try with_reducible rfl)
            try simp only [Act.put, List.setIfInBounds_toArray, List.set_cons_zero, List.set_cons_succ]
            refine wpAnyH_take (i := 13) (v := ?_) rfl (by kernel_rfl) (by kernel_rfl) (by kernel_rfl) (fun _ _ _ h => h) (Or.inl ⟨by kernel_rfl, ?_⟩) hHeld ?_
            rotate_left
            · (intro w hSw; (try dsimp only at hSw); go_simp; try with_reducible rfl)
            try simp only [Act.put, List.setIfInBounds_toArray, List.set_cons_zero, List.set_cons_succ]
            refine wpAnyH_take (i := 14) (v := ?_) rfl (by kernel_rfl) (by kernel_rfl) (by kernel_rfl) (fun _ _ _ h => h) (Or.inl ⟨by kernel_rfl, ?_⟩) hHeld ?_
            rotate_left
            · (intro w hSw; (try dsimp only at hSw); go_simp; (try rw [if_pos ⟨by omega, by omega⟩]))
            try simp only [Act.put, List.setIfInBounds_toArray, List.set_cons_zero, List.set_cons_succ]
            refine wpAnyH_ready (rs := [8]) (by kernel_rfl) (by simp) ?_
            refine AllReadyH.cons rfl (fun K hK => ?_) AllReadyH.nil
            go_simp
            refine hK.out _ _ ?_ (fun hNew => ?_)
            · exact Nat.zero_le _
            clear hK K hHeld
            have hHeld := hNew
            clear hNew
            try simp only [Act.put, List.setIfInBounds_toArray, List.set_cons_zero, List.set_cons_succ]
            have hcell := (Blk.new w3 5 #[.int .u8 (IntKind.u8.wrap (97 + IntKind.u8.wrap ((IntKind.i64.wrap ((x.length : Int) + (vv.length : Int))).tmod 5)))]).drew.cell 0
            rw [val_byte _ _ hxl hvl] at hcell
            rw [val_byte _ _ hxl hvl]
            simp only [List.getElem?_toArray, List.getElem?_cons_zero] at hcell
            refine wpAnyH_more (S' := (fun (w' : World) => w'.cell? ⟨w3.heap.size, 0, none⟩ = some (.int .u8 ((97 + (x.length + vv.length) % 5 : Nat) : Int)))) (fun _ _ => Nat.zero_le _) ?_
            clear hHeld
            have hHeld : (fun (w' : World) => w'.cell? ⟨w3.heap.size, 0, none⟩ = some (.int .u8 ((97 + (x.length + vv.length) % 5 : Nat) : Int))) _ := hcell
            obtain ⟨cb, hcb⟩ : ∃ c : UInt8, UInt8.ofNat (97 + (x.length + vv.length) % 5) = c := ⟨_, rfl⟩
            have HEQ := Lib.hid (val_eq x vv hcb)
            have hbc := bs_size [cb]
            simp only [List.length_singleton] at hbc
            refine wpAnyH_take (i := 9) (v := ?_) rfl (by kernel_rfl) (by kernel_rfl) (by kernel_rfl) (fun _ _ _ h => h) (Or.inl ⟨by kernel_rfl, ?_⟩) hHeld ?_
            rotate_left
            · (intro w hSw; (try dsimp only at hSw); go_simp; (rw [conv1 hSw, hcb]; rfl))
            try simp only [Act.put, List.setIfInBounds_toArray, List.set_cons_zero, List.set_cons_succ]
            refine wpAnyH_take (i := 15) (v := ?_) rfl (by kernel_rfl) (by kernel_rfl) (by kernel_rfl) (fun _ _ _ h => h) (Or.inl ⟨by kernel_rfl, ?_⟩) hHeld ?_
            rotate_left
            · (intro w hSw; (try dsimp only at hSw); go_simp; (rw [if_neg (by omega)]))
            try simp only [Act.put, List.setIfInBounds_toArray, List.set_cons_zero, List.set_cons_succ]
            refine wpAnyH_take (i := 16) (v := ?_) rfl (by kernel_rfl) (by kernel_rfl) (by kernel_rfl) (fun _ _ _ h => h) (Or.inl ⟨by kernel_rfl, ?_⟩) hHeld ?_
            rotate_left
            · (intro w hSw; (try dsimp only at hSw); go_simp; try with_reducible rfl)
            try simp only [Act.put, List.setIfInBounds_toArray, List.set_cons_zero, List.set_cons_succ]
            refine wpAnyH_done (by kernel_rfl) ?_ _
            clear hHeld
            try simp only [List.getElem_toArray, List.getElem_cons_zero, List.getElem_cons_succ, Act.put, List.setIfInBounds_toArray, List.set_cons_zero, List.set_cons_succ]
            refine NoPanic.normal ?_
            have P4 := Lib.hid (P3.out.next (((Below.refl w3.heap.size w3).alloc (Nat.le_refl _) (.cells #[.int .u8 ((97 + (x.length + vv.length) % 5 : Nat) : Int)] 5)).drew))
            have M4 := Lib.hid (M3.out.next (((Below.refl w3.heap.size w3).alloc (Nat.le_refl _) (.cells #[.int .u8 ((97 + (x.length + vv.length) % 5 : Nat) : Int)] 5)).drew))
            rw [HEQ.out]
            clear hcell hbc hby hbx
            go_wp2_with fail
            go_roundw
            case rel => exact ⟨m + 1, by omega, by go_num, by rw [HR1.out, HSM.out]; rfl, by rw [HR1.out], by rw [HR1.out], P4.out, by rw [HR1.out]; exact M4.out⟩
            case measure => simp [intOf]; omega
    · have j2 : decide ((m : Int) < 6) = false := decide_eq_false (by omega)
      have HRA : Hid (rdA s k d = ⟨vv, fi, al, nms⟩) := Lib.hid (by have := HST.out; rw [show m = 6 by omega] at this; exact this)
      clear HST HSU hm hm6
      go_wp2_with fail
      have hba := (Below.refl wr.heap.size wr).alloc (Nat.le_refl _) (.map #[] 0)
      have P2 := Lib.hid (P1.out.next hba)
      have M2 := Lib.hid (M1.out.next hba)
      have L2 : Hid (SMapL (wr.alloc (.map #[] 0)) wr.heap.size []) := Lib.hid (MapAt.new wr)
      have HMW := Lib.hid (show w.heap.size + 1 + 1 + 1 + 1 < wr.heap.size from M1.out.lt)
      have H0 : Hid (p2Rel w s k d wr.heap.size (.int .i64 (0 : Nat)) (wr.alloc (.map #[] 0))) := Lib.hid ⟨0, by omega, rfl, P2.out, by rw [HRA.out]; exact M2.out, L2.out⟩
      clear P1 M1 P2 M2 L2 hba j2
      generalize wr.alloc (.map #[] 0) = w9 at *
      obtain ⟨mw, hmw⟩ : ∃ mw, wr.heap.size = mw := ⟨_, rfl⟩
      rw [hmw] at HMW H0 ⊢
      clear hmw
      go_loopw [15] (fun i wr => p2Rel w s k d mw i wr) (fun i _ => 6 - (intOf i).toNat)
      case atStart => exact H0.out
      case round =>
        clear H0
        obtain ⟨q, hq6, rfl, hPB, hBM, hLM⟩ := hrel
        rw [HRA.out] at hBM hLM
        have P2 := Lib.hid hPB
        have M2 := Lib.hid hBM
        have L2 := Lib.hid hLM
        have HWS := Lib.hid (wrTo_succ d ⟨vv, fi, al, nms⟩ q)
        clear hPB hBM hLM
        by_cases hq : q < 6
        · have j0 : (0 : Int) ≤ (q : Int) := by omega
          have j1 : (q : Int) < 6 := by omega
          have j2 : decide ((q : Int) < 6) = true := decide_eq_true j1
          have x2 := P2.out.db.cell 2
          simp only [List.getElem?_toArray, List.getElem?_cons_zero, List.getElem?_cons_succ] at x2
          have hbb := bits_bit d.writes q
          cases hbt : bitN d.writes q with
          | false =>
            have hb1 : (bits BinOp.and IntKind.u8 ((d.writes : Int) / 2 ^ q) 1 == 1) = false := by rw [hbb, hbt]; rfl
            have HW1 := Lib.hid (show wrTo d ⟨vv, fi, al, nms⟩ (q + 1) = wrTo d ⟨vv, fi, al, nms⟩ q by rw [HWS.out, hbt]; rfl)
            clear hbt hbb
            go_wp2_with fail
            go_roundw
            case rel => exact ⟨q + 1, by omega, by go_num, P2.out, by rw [HRA.out]; exact M2.out, by rw [HRA.out, HW1.out]; exact L2.out⟩
            case measure => simp [intOf]; omega
          | true =>
            have hb1 : (bits BinOp.and IntKind.u8 ((d.writes : Int) / 2 ^ q) 1 == 1) = true := by rw [hbb, hbt]; rfl
            cases al with
            | true =>
              have HW1 := Lib.hid (show wrTo d ⟨vv, fi, true, nms⟩ (q + 1) = putM (prtN (1 + (q : Nat))) vv (wrTo d ⟨vv, fi, true, nms⟩ q) by rw [HWS.out, hbt]; rfl)
              clear hbt hbb
              go_wp2_with fail
              go_at_call 16
              refine (port_is q j0 (by omega) _).mono ?_
              rintro e w2 ⟨rfl, hb⟩
              obtain ⟨w3, hput, hbm, hg⟩ := (L2.out.next hb).put (prtN (1 + (q : Nat))) vv
              have P3 := Lib.hid ((P2.out.next hb).map (L2.out.next hb) hg (by have := HMW.out; omega))
              have M3 := Lib.hid ((M2.out.next hb).same (hg.block _ (M2.out.next hb).lt (fun e => by injection e with e; have := HMW.out; omega)))
              have L3 := Lib.hid hbm
              clear hb hbm hg hb1
              go_wp2_with fail
              go_roundw
              case rel => exact ⟨q + 1, by omega, by go_num, P3.out, by rw [HRA.out]; exact M3.out, by rw [HRA.out, HW1.out]; exact L3.out⟩
              case measure => simp [intOf]; omega
            | false =>
              by_cases h3 : q < 3
              · have j3 : decide ((q : Int) < 3) = true := decide_eq_true (by omega)
                have j4 : decide (q < 3) = true := decide_eq_true h3
                have HW1 := Lib.hid (show wrTo d ⟨vv, fi, false, nms⟩ (q + 1) = putM (prtN (1 + (q : Nat))) vv (wrTo d ⟨vv, fi, false, nms⟩ q) by rw [HWS.out, hbt, j4]; rfl)
                clear hbt hbb
                go_wp2_with fail
                go_at_call 16
                refine (port_is q j0 (by omega) _).mono ?_
                rintro e w2 ⟨rfl, hb⟩
                obtain ⟨w3, hput, hbm, hg⟩ := (L2.out.next hb).put (prtN (1 + (q : Nat))) vv
                have P3 := Lib.hid ((P2.out.next hb).map (L2.out.next hb) hg (by have := HMW.out; omega))
                have M3 := Lib.hid ((M2.out.next hb).same (hg.block _ (M2.out.next hb).lt (fun e => by injection e with e; have := HMW.out; omega)))
                have L3 := Lib.hid hbm
                clear hb hbm hg hb1
                go_wp2_with fail
                go_roundw
                case rel => exact ⟨q + 1, by omega, by go_num, P3.out, by rw [HRA.out]; exact M3.out, by rw [HRA.out, HW1.out]; exact L3.out⟩
                case measure => simp [intOf]; omega
              · have j3 : decide ((q : Int) < 3) = false := decide_eq_false (by omega)
                have j4 : decide (q < 3) = false := decide_eq_false h3
                have HW1 := Lib.hid (show wrTo d ⟨vv, fi, false, nms⟩ (q + 1) = wrTo d ⟨vv, fi, false, nms⟩ q by rw [HWS.out, hbt, j4]; rfl)
                clear hbt hbb
                go_wp2_with fail
                go_roundw
                case rel => exact ⟨q + 1, by omega, by go_num, P2.out, by rw [HRA.out]; exact M2.out, by rw [HRA.out, HW1.out]; exact L2.out⟩
                case measure => simp [intOf]; omega
        · have j2 : decide ((q : Int) < 6) = false := decide_eq_false (by omega)
          have HQ6 := Lib.hid (show q = 6 by omega)
          have x3 := P2.out.db.cell 3
          simp only [List.getElem?_toArray, List.getElem?_cons_zero, List.getElem?_cons_succ] at x3
          clear HWS hq hq6
          go_upto_region 23 with (fail)
          have hsr := HP.out.de.2.2.2
          go_cut [110] (fun v wx => v = .bool (spw d) ∧ wr = wx)
          case first =>
            by_cases h1 : 1 ≤ d.spawn
            · have e1 : decide ((1 : Int) ≤ (d.spawn : Int)) = true := decide_eq_true (by omega)
              have e3 : decide (1 ≤ d.spawn) = true := decide_eq_true h1
              by_cases h2 : d.spawn ≤ 3
              · have e2 : decide ((d.spawn : Int) ≤ 3) = true := decide_eq_true (by omega)
                have e4 : decide (d.spawn ≤ 3) = true := decide_eq_true h2
                have HSP := Lib.hid (show spw d = true by unfold spw; rw [e3, e4]; rfl)
                clear h1 h2
                go_wp2_with fail
                go_meet
                case rel => exact ⟨by rw [HSP.out], rfl⟩
              · have e2 : decide ((d.spawn : Int) ≤ 3) = false := decide_eq_false (by omega)
                have e4 : decide (d.spawn ≤ 3) = false := decide_eq_false h2
                have HSP := Lib.hid (show spw d = false by unfold spw; rw [e3, e4]; rfl)
                clear h1 h2
                go_wp2_with fail
                go_meet
                case rel => exact ⟨by rw [HSP.out], rfl⟩
            · have e1 : decide ((1 : Int) ≤ (d.spawn : Int)) = false := decide_eq_false (by omega)
              have e3 : decide (1 ≤ d.spawn) = false := decide_eq_false h1
              have HSP := Lib.hid (show spw d = false by unfold spw; rw [e3]; rfl)
              clear h1
              go_wp2_with fail
              go_meet
              case rel => exact ⟨by rw [HSP.out], rfl⟩
          case rest =>
          obtain ⟨rfl, rfl⟩ := hcut
          obtain ⟨sp, hsp⟩ : ∃ sp, spw d = sp := ⟨_, rfl⟩
          rw [hsp]
          have HSP := Lib.hid hsp
          have HSB := Lib.hid (show sp = true → 1 ≤ d.spawn ∧ d.spawn < 256 from fun h => by rw [h] at hsp; unfold spw at hsp; simp only [Bool.and_eq_true, decide_eq_true_eq] at hsp; omega)
          clear hsp x3 hsr
          go_upto_if 110 with (fail)
          go_cut [11] (fun v wx => v = .map (some (w.heap.size + 1 + 1 + 1 + 1)) ∧ PB w k d wx (.slice none 0 0) (.slice none 0 0) ∧ BMap wx (w.heap.size + 1 + 1 + 1 + 1) (rds s k d) ∧ SMapL wx mw (wrs s k d))
          case first =>
            have x3 := P2.out.db.cell 3
            simp only [List.getElem?_toArray, List.getElem?_cons_zero, List.getElem?_cons_succ] at x3
            cases sp with
            | true =>
              obtain ⟨hs1, hs3⟩ := HSB.out rfl
              go_wp2_with fail
              go_at_call 18
              refine (who_is d.spawn hs1 hs3 _).mono ?_
              rintro e w3 ⟨rfl, hb⟩
              have P3 := Lib.hid (P2.out.next hb)
              have M3 := Lib.hid (M2.out.next hb)
              have L3 := Lib.hid (L2.out.next hb)
              clear hb
              go_wp2_with fail
              go_at_call 17
              refine (ofproc_is _ _).mono ?_
              rintro e w4 ⟨rfl, hb⟩
              have P4 := Lib.hid (P3.out.next hb)
              have M4 := Lib.hid (M3.out.next hb)
              have L4 := Lib.hid (L3.out.next hb)
              clear hb
              obtain ⟨w5, hput, hbm, hg⟩ := M4.out.put (prcN (whoS d.spawn))
              have P5 := Lib.hid (P4.out.map M4.out hg (by omega))
              have M5 := Lib.hid hbm
              have L5 := Lib.hid (L4.out.same (hg.block _ L4.out.lt (fun e => by injection e with e; have := HMW.out; omega)))
              clear hbm hg x3
              have x3 := P5.out.db.cell 3
              simp only [List.getElem?_toArray, List.getElem?_cons_zero, List.getElem?_cons_succ] at x3
              go_wp2_with fail
              go_at_call 18
              refine (who_is d.spawn hs1 hs3 _).mono ?_
              rintro e w6 ⟨rfl, hb⟩
              have P6 := Lib.hid (P5.out.next hb)
              have M6 := Lib.hid (M5.out.next hb)
              have L6 := Lib.hid (L5.out.next hb)
              clear hb
              go_wp2_with fail
              go_at_call 17
              refine (ofproc_is _ _).mono ?_
              rintro e w7 ⟨rfl, hb⟩
              have P7 := Lib.hid (P6.out.next hb)
              have M7 := Lib.hid (M6.out.next hb)
              have L7 := Lib.hid (L6.out.next hb)
              clear hb
              clear hput
              obtain ⟨w8, hput, hbm, hg⟩ := L7.out.put (prcN (whoS d.spawn)) [112]
              rw [show bs [112] = ⟨#[112]⟩ from rfl] at hput
              have P8 := Lib.hid (P7.out.map L7.out hg (by have := HMW.out; omega))
              have M8 := Lib.hid (M7.out.same (hg.block _ M7.out.lt (fun e => by injection e with e; have := HMW.out; omega)))
              have L8 := Lib.hid hbm
              clear hbm hg
              go_wp2_with fail
              go_meet
              case rel => exact ⟨rfl, P8.out, by unfold rds; rw [HSP.out, HRA.out]; exact M8.out, by unfold wrs; rw [HSP.out, HRA.out, ← HQ6.out]; exact L8.out⟩
            | false =>
              go_wp2_with fail
              go_meet
              case rel => exact ⟨rfl, P2.out, by unfold rds; rw [HSP.out, HRA.out]; exact M2.out, by unfold wrs; rw [HSP.out, HRA.out, ← HQ6.out]; exact L2.out⟩
          case rest =>
          obtain ⟨rfl, hPB, hBM, hLM⟩ := hcut
          have P3 := Lib.hid hPB
          have M3 := Lib.hid hBM
          have L3 := Lib.hid hLM
          clear hPB hBM hLM P2 M2 L2
          have HRD := Lib.hid (rds_ok HP.out)
          have HWD := Lib.hid (wrs_ok HP.out)
          go_wp2_with fail
          go_at_call 46
          refine (keys_is M3.out (Nat.le_trans HRD.out.1 (by omega))).mono ?_
          rintro e w10 ⟨v10, l10, rfl, hpm, hown, hb⟩
          have hl10 : l10.length ≤ 12 := by rw [hpm.length_eq]; exact Nat.le_trans HRD.out.1 (by omega)
          have ho10 : ∀ n ∈ l10, OwnE n := fun n hn => ob_own HRD.out.2.2 n (hpm.mem_iff.1 hn)
          have HSU := Lib.hid (sortU_perm ordN (ob_own HRD.out.2.2) hpm)
          have P10 := Lib.hid (P3.out.next hb)
          have L10 := Lib.hid (L3.out.next hb)
          have HSO := Lib.hid (sort2_is (Rd.of_own hown) hl10 ho10)
          clear hown hb hl10 ho10 hpm P3 L3 M3
          go_wp2_with fail
          go_at_call 45
          refine HSO.out.mono ?_
          rintro e w11 ⟨v11, rfl, hown, hb⟩
          rw [HSU.out] at hown
          have hrn : RdNm w11 v11 (sortU cmpN (rds s k d)) := Rd.of_own hown
          have hsl := sortU_len HRD.out.2.2
          obtain ⟨S, hS⟩ : ∃ S, sortU cmpN (rds s k d) = S := ⟨_, rfl⟩
          rw [hS] at hrn hsl
          have HSS := Lib.hid hS
          obtain ⟨A11, c11, rfl, hc11⟩ := RdP.form hrn
          have H0 : Hid (p3Rel w s k d mw S (.slice A11 S.length c11) (.int .i64 (0 : Nat)) w11) := Lib.hid ⟨0, Nat.zero_le _, rfl, _, P10.out.next hb, OwnP.nil, L10.out.next hb, hrn⟩
          clear hown hb hrn hS P10 L10 HSO HSU
          go_wp2_with fail
          go_loopw [125] (fun i wr => p3Rel w s k d mw S (.slice A11 S.length c11) i wr) (fun i _ => S.length - (intOf i).toNat)
          case atStart => exact H0.out
          case round =>
            clear H0
            obtain ⟨g, hgl, rfl, rv, hPB, hRV, hLM, hRN⟩ := hrel
            have P12 := Lib.hid hPB
            have R12 := Lib.hid hRV
            have L12 := Lib.hid hLM
            have N12 := Lib.hid hRN
            clear hPB hRV hLM hRN
            by_cases hg : g < S.length
            · have j0 : (0 : Int) ≤ (g : Int) := by omega
              have j1 : (g : Int) < (S.length : Int) := by omega
              have j2 : decide ((g : Int) < (S.length : Int)) = true := decide_eq_true j1
              obtain ⟨nb, no, hbe, hnb, y0, y1, y2, y3, y4⟩ := RdNm.piece N12.out hg
              subst hbe
              have HTK := Lib.hid (show S.take (g + 1) = S.take g ++ [S[g]] from List.take_succ_eq_append_getElem hg)
              obtain ⟨n, hn⟩ : ∃ n, S[g] = n := ⟨_, rfl⟩
              rw [hn] at y0 y1 y2 y3 y4 HTK
              clear hn
              obtain ⟨x, hx⟩ : ∃ x, (s n).getD [] = x := ⟨_, rfl⟩
              obtain ⟨q, hq⟩ : ∃ q, (s n).isSome = q := ⟨_, rfl⟩
              have HRC := Lib.hid (show rdC s n = ⟨n, x, !q⟩ by unfold rdC; rw [hx, ← hq]; cases s n <;> rfl)
              have HLK := Lib.hid (fun W (h : SMap W sb s) => h.ok n hx hq)
              clear hx hq
              go_upto_region 29 with (fail)
              have hba := (Below.refl wr.heap.size wr).alloc (Nat.le_refl _) (.cells #[.int .i64 n.kind, .string (bs n.owner), .int .i64 n.num, .int .i64 n.idx, .string (bs n.text)] 41)
              have ZN := Lib.hid (Blk.new wr 41 #[.int .i64 n.kind, .string (bs n.owner), .int .i64 n.num, .int .i64 n.idx, .string (bs n.text)])
              have P13 := Lib.hid (P12.out.next hba)
              have R13 := Lib.hid (OwnP.next R12.out hba)
              have L13 := Lib.hid (L12.out.next hba)
              have N13 := Lib.hid (RdP.next N12.out hba)
              clear y0 y1 y2 y3 y4 hba hnb P12 R12 L12 N12
              generalize wr.alloc (.cells #[.int .i64 n.kind, .string (bs n.owner), .int .i64 n.num, .int .i64 n.idx, .string (bs n.text)] 41) = W at *
              obtain ⟨cb, hcb⟩ : ∃ cb, wr.heap.size = cb := ⟨_, rfl⟩
              rw [hcb] at ZN ⊢
              clear hcb
              have z0 := ZN.out.cell 0
              have z1 := ZN.out.cell 1
              have z2 := ZN.out.cell 2
              have z3 := ZN.out.cell 3
              have z4 := ZN.out.cell 4
              have a4 := P13.out.ab.cell 4
              simp only [List.getElem?_toArray, List.getElem?_cons_zero, List.getElem?_cons_succ] at z0 z1 z2 z3 z4 a4
              have hlk := HLK.out W (HS.out.next P13.out.fr)
              unfold nmV nmA at hlk
              obtain ⟨A3, c3, rfl, hc3⟩ := own_len R13.out
              have HLN := Lib.hid (show ((S.take g).map (rdC s)).length ≤ 10 by rw [List.length_map, List.length_take]; omega)
              obtain ⟨L, hL⟩ : ∃ L, (S.take g).map (rdC s) = L := ⟨_, rfl⟩
              have HL := Lib.hid hL
              rw [hL] at R13 HLN hc3 a4 P13
              clear hL
              have hLl := HLN.out
              go_upto_region 30 with (fail)
              clear hlk
              have hba := (Below.refl W.heap.size W).alloc (Nat.le_refl _) (.cells #[.int .i64 n.kind, .string (bs n.owner), .int .i64 n.num, .int .i64 n.idx, .string (bs n.text), .string (bs x), .bool (!q)] 87)
              have PV := Lib.hid (P13.out.next hba)
              have RV := Lib.hid (OwnP.next R13.out hba)
              have LV := Lib.hid (L13.out.next hba)
              have NV := Lib.hid (RdP.next N13.out hba)
              have ZV := Lib.hid (ZN.out.next hba ZN.out.lt)
              have hws := P13.out.fr.size
              have habl := P13.out.ab.lt
              obtain ⟨i0, hi, hz0, hz1, hz2⟩ := info_parts infoCh
              go_wp2_with (at_builtin; refine wpList_append_w _ rfl _ _ _ rfl w.heap.size 87 i0 _ 7 80 Try.underlying57 hi hz0 hz1 hz2 rfl (by omega) (.slice A3 L.length c3) L.length (L.flatMap chC) rfl RV.out (.slice (some ⟨W.heap.size, 0, none⟩) 1 1) 1 [.int .i64 n.kind, .string (bs n.owner), .int .i64 n.num, .int .i64 n.idx, .string (bs n.text), .string (bs x), .bool (!q)] (by rfl) (Rd.of_own (own_new W 0 87 7 [.int .i64 n.kind, .string (bs n.owner), .int .i64 n.num, .int .i64 n.idx, .string (bs n.text), .string (bs x), .bool (!q)] rfl (Nat.zero_le _))) (by omega) (by rfl) (by simp [Value.oneCell']) (by unfold maxLen; omega) (by omega) (by simp; omega) ?_; intro v8 w8 hown8 hg8 hat8; obtain ⟨A8, c8, rfl, _⟩ := own_len hown8; have hA8 := PV.out.ab.grown hg8 (own_apart_blk47 RV.out PV.out.ab (by decide)); have hZ8 := ZV.out.grown hg8 (own_apart_blk47 RV.out ZV.out (by decide)); have HO8 := Lib.hid hown8; have HG8 := Lib.hid hg8; have HA8 := Lib.hid hA8; have L8 := Lib.hid (LV.out.same (hg8.block _ LV.out.lt (fun e => own_not_mapAt RV.out LV.out e.symm))); have N8 := Lib.hid (Rd.far NV.out RV.out hg8 (by decide)); have r4 := hA8.cell 4; have rf := hA8.frozen 4; have e0 := hZ8.cell 0; have e1 := hZ8.cell 1; have e2 := hZ8.cell 2; have e3 := hZ8.cell 3; have e4 := hZ8.cell 4; (simp only [List.getElem?_toArray, List.getElem?_cons_zero, List.getElem?_cons_succ] at r4 e0 e1 e2 e3 e4); clear hown8 hg8 hat8 hA8 hZ8)
              clear z0 z1 z2 z3 z4
              have HB9 := Lib.hid (PV.out.fr.grown HG8.out PV.out.fr.size (fun k hk => own_ge RV.out hk))
              have hnab := own_blk_ne HO8.out HA8.out (by decide)
              have P15 : Hid (PB w k d (w8.setCell ⟨w.heap.size + 1 + 1 + 1, 4, none⟩ (.slice A8 (L.length + 1) c8)) (.slice A8 (L.length + 1) c8) (.slice none 0 0)) := Lib.hid {
                fr := HB9.out.setCell (p := ⟨w.heap.size + 1 + 1 + 1, 4, none⟩) (by show w.heap.size ≤ w.heap.size + 1 + 1 + 1; omega) _
                kb := (PV.out.kb.grown HG8.out (own_apart_blk47 RV.out PV.out.kb (by decide))).far (by show w.heap.size ≠ w.heap.size + 1 + 1 + 1; omega) _
                db := (PV.out.db.grown HG8.out (own_apart_blk47 RV.out PV.out.db (by decide))).far (by show w.heap.size + 1 ≠ w.heap.size + 1 + 1 + 1; omega) _
                rb := (PV.out.rb.grown HG8.out (own_apart_blk47 RV.out PV.out.rb (by decide))).far (by show w.heap.size + 1 + 1 ≠ w.heap.size + 1 + 1 + 1; omega) _
                ab := HA8.out.set_ 4 _ }
              have R15 : Hid (OwnP 87 7 chC (w8.setCell ⟨w.heap.size + 1 + 1 + 1, 4, none⟩ (.slice A8 (L.length + 1) c8)) w.heap.size (.slice A8 (L.length + 1) c8) ((S.take (g + 1)).map (rdC s))) := Lib.hid (by
                rw [HTK.out, List.map_append, HL.out, List.map_singleton, HRC.out]
                refine OwnP.snoc (own_same HO8.out fun z hz => Below.heap_setCell w8 ⟨w.heap.size + 1 + 1 + 1, 4, none⟩ _ _ (fun e => hnab (hz.trans (congrArg some e))))
              )
              have L15 : Hid (SMapL (w8.setCell ⟨w.heap.size + 1 + 1 + 1, 4, none⟩ (.slice A8 (L.length + 1) c8)) mw (wrs s k d)) := Lib.hid ((L8.out).same (Below.heap_setCell w8 ⟨w.heap.size + 1 + 1 + 1, 4, none⟩ _ _ (fun e => L8.out.noCells HA8.out (congrArg some e.symm))))
              have N15 : Hid (RdNm (w8.setCell ⟨w.heap.size + 1 + 1 + 1, 4, none⟩ (.slice A8 (L.length + 1) c8)) (.slice (some ⟨nb, no, none⟩) S.length c11) S) := Lib.hid (Rd.blk N8.out HA8.out (only_setCell (only_of_below (Below.refl _ _) _) (.inl rfl) _) (by decide))
              clear r4 a4 hws habl hnab
              go_roundw
              case rel => exact ⟨g + 1, by omega, by go_num, _, P15.out, R15.out, L15.out, N15.out⟩
              case measure => simp [intOf]; omega
            · have j2 : decide ((g : Int) < (S.length : Int)) = false := decide_eq_false (by omega)
              have HGE := Lib.hid (show S.take g = S by rw [List.take_of_length_le (by omega)])
              rw [HGE.out] at R12
              obtain ⟨RR, hRR⟩ : ∃ RR, S.map (rdC s) = RR := ⟨_, rfl⟩
              have HRR : Hid (RR = (prf s k d).reads) := Lib.hid (by rw [← hRR, ← HSS.out]; rfl)
              rw [hRR] at R12
              obtain ⟨ents, hents⟩ : ∃ ents, (wrs s k d).map (fun p => (p.1, Value.string (bs p.2))) = ents := ⟨_, rfl⟩
              have HEK : Hid (ents.map Prod.fst = (wrs s k d).map Prod.fst) := Lib.hid (by rw [← hents, List.map_map]; rfl)
              have HEN := Lib.hid hents
              have hel : ents.length ≤ 12 := by rw [← hents, List.length_map]; exact Nat.le_trans HWD.out.1 (by omega)
              have hM := L12.out
              unfold SMapL at hM
              rw [hents] at hM
              have HM := Lib.hid hM
              obtain ⟨i0, hi, hz0, hz1, hz2⟩ := info_parts infoNm
              clear hM hents hRR N12 L12 HSS HGE
              obtain ⟨wb, rfl⟩ : ∃ wb, wb = wr := ⟨_, rfl⟩
              go_wp2_with (at_range; refine wpList_range_nm _ rfl _ _ rfl Try.underlying54 mw ents rfl HM.out ?_; intro w7 hit7 hb7 hs7; have HIT7 := Lib.hid hit7; have HB7 := Lib.hid hb7; clear hit7 hb7 hs7)
              try go_frame
              obtain ⟨r, hr⟩ : ∃ r, wb.heap.size = r := ⟨_, rfl⟩
              have HRG : Hid (wb.heap.size ≤ r) := Lib.hid (by omega)
              rw [hr] at HIT7 ⊢
              have P12r := P12.out
              have H0 : Hid (keyRel ents mw r wb (.slice none 0 0) w7) := Lib.hid ⟨[], ents, HIT7.out, List.Perm.refl _, World.ownsRow_nil _ _ _ _, HB7.out⟩
              clear hr P12r
              go_loopw [20] (fun v wr => keyRel ents mw r wb v wr) (fun _ wr => wr.rangeLeft mw r)
              case atStart => exact H0.out
              case round =>
                clear H0
                obtain ⟨seen, left, hit, hpm, hown, hbw⟩ := hrel
                have hsl : seen.length + left.length = ents.length := by
                  have := hpm.length_eq
                  simpa using this
                have HIT := Lib.hid hit
                have HPM := Lib.hid hpm
                have HBW := Lib.hid hbw
                have hLl : seen.length ≤ 12 := by omega
                have HO := Lib.hid hown
                obtain ⟨A3, c3, rfl, hc3⟩ := own_len hown
                clear hit hpm hown hbw
                go_wp2_with (at_next; refine wpList_next_nm _ rfl _ rfl mw r ents left rfl HIT.out ?_ ?_)
                · intro hleft
                  have HPE : Hid (seen.Perm ((wrs s k d).map Prod.fst)) := Lib.hid (by have := HPM.out; rw [hleft, HEK.out] at this; simpa using this)
                  clear hleft
                  have P16 := Lib.hid (P12.out.next (HBW.out.mono (Nat.le_refl _)))
                  have R16 := Lib.hid (OwnP.next R12.out HBW.out)
                  have M16 := Lib.hid (HM.out.next HBW.out)
                  have ho16 : ∀ n ∈ seen, OwnE n := fun n hn => by
                    have := HPE.out.mem_iff.1 hn
                    obtain ⟨p, hp, rfl⟩ := List.mem_map.1 this
                    exact IsOb.own (HWD.out.2.2 p hp).1
                  have hob : ∀ n ∈ (wrs s k d).map Prod.fst, n ∈ objs := fun n hn => by
                    obtain ⟨p, hp, rfl⟩ := List.mem_map.1 hn
                    exact (HWD.out.2.2 p hp).1
                  have HSU := Lib.hid (sortU_perm ordN (ob_own hob) HPE.out)
                  have HSO := Lib.hid (sort2_is (Rd.of_own HO.out) hLl ho16)
                  have htl := sortU_len hob
                  clear ho16 hob HPE HPM HO P12 R12 HM HIT hc3
                  go_wp2_with fail
                  go_at_call 45
                  refine HSO.out.mono ?_
                  rintro e wB ⟨v17, rfl, hown, hb⟩
                  rw [HSU.out] at hown
                  have hrn : RdNm wB v17 (sortU cmpN ((wrs s k d).map Prod.fst)) := Rd.of_own hown
                  obtain ⟨T, hT⟩ : ∃ T, sortU cmpN ((wrs s k d).map Prod.fst) = T := ⟨_, rfl⟩
                  rw [hT] at hrn htl
                  have HTT : Hid (T.map (wrC (wrs s k d)) = (prf s k d).writes) := Lib.hid (by rw [← hT]; rfl)
                  obtain ⟨A17, c17, rfl, hc17⟩ := RdP.form hrn
                  have N17 := Lib.hid hrn
                  have P17 := Lib.hid (P16.out.next hb)
                  have R17 := Lib.hid (OwnP.next R16.out hb)
                  have M17 := Lib.hid (M16.out.next hb)
                  have hws := P17.out.fr.size
                  have hab := P17.out.ab.lt
                  have H0 : Hid (p4Rel w wB s k d rv T (.int .i64 (0 : Nat)) wB) := Lib.hid ⟨0, Nat.zero_le _, rfl, _, Outer.refl _ _, P17.out.ab, OwnP.nil⟩
                  clear hown hb hrn hT P16 R16 M16 HSO HSU
                  go_wp2_with fail
                  go_loopw [159] (fun i wr => p4Rel w wB s k d rv T i wr) (fun i _ => T.length - (intOf i).toNat)
                  case atStart => exact H0.out
                  case round =>
                    clear H0
                    obtain ⟨m4, hml4, rfl, wv, hOT, hAB, hWV⟩ := hrel
                    by_cases hg4 : m4 < T.length
                    · have j0 : (0 : Int) ≤ (m4 : Int) := by omega
                      have j1 : (m4 : Int) < (T.length : Int) := by omega
                      have j2 : decide ((m4 : Int) < (T.length : Int)) = true := decide_eq_true j1
                      have hwsB := hOT.size
                      have hrn := rd_out_ N17.out hOT (f47_cells P17.out.ab (by decide) (Nat.le_refl _))
                      obtain ⟨nb, no, hbe, hnb, y0, y1, y2, y3, y4⟩ := RdNm.piece hrn hg4
                      subst hbe
                      have HTK := Lib.hid (show T.take (m4 + 1) = T.take m4 ++ [T[m4]] from List.take_succ_eq_append_getElem hg4)
                      obtain ⟨n, hn⟩ : ∃ n, T[m4] = n := ⟨_, rfl⟩
                      rw [hn] at y0 y1 y2 y3 y4 HTK
                      clear hn hrn
                      obtain ⟨x, hx⟩ : ∃ x, (lookM n (wrs s k d)).getD [] = x := ⟨_, rfl⟩
                      have HRC := Lib.hid (show wrC (wrs s k d) n = ⟨n, x, false⟩ by unfold wrC; rw [hx])
                      have HLK := Lib.hid (fun W (h : MapAt W mw ents) => (show SMapL W mw (wrs s k d) by unfold SMapL; rw [HEN.out]; exact h).look n hx)
                      have hmwB := M17.out.lt
                      have hmab : mw ≠ w.heap.size + 1 + 1 + 1 := fun e => M17.out.noCells P17.out.ab (congrArg some e.symm)
                      have M18 := Lib.hid (M17.out.same (hOT.block mw hmwB (fun hf => by rcases hf with e | e; exact hmab e; omega)))
                      have OT := Lib.hid hOT
                      clear hx hOT
                      go_upto_region 40 with (fail)
                      have hba := (Below.refl wr.heap.size wr).alloc (Nat.le_refl _) (.cells #[.int .i64 n.kind, .string (bs n.owner), .int .i64 n.num, .int .i64 n.idx, .string (bs n.text)] 41)
                      have ZN := Lib.hid (Blk.new wr 41 #[.int .i64 n.kind, .string (bs n.owner), .int .i64 n.num, .int .i64 n.idx, .string (bs n.text)])
                      have AB := Lib.hid (hAB.next hba hAB.lt)
                      have WV := Lib.hid (OwnP.next hWV hba)
                      have OT2 := Lib.hid (out_next OT.out hba)
                      have M19 := Lib.hid (M18.out.next hba)
                      clear y0 y1 y2 y3 y4 hba hnb hAB hWV OT M18
                      have hwsW : wB.heap.size ≤ (wr.alloc (.cells #[.int .i64 n.kind, .string (bs n.owner), .int .i64 n.num, .int .i64 n.idx, .string (bs n.text)] 41)).heap.size := OT2.out.size
                      generalize wr.alloc (.cells #[.int .i64 n.kind, .string (bs n.owner), .int .i64 n.num, .int .i64 n.idx, .string (bs n.text)] 41) = W at *
                      obtain ⟨cb, hcb⟩ : ∃ cb, wr.heap.size = cb := ⟨_, rfl⟩
                      have hcbB : wB.heap.size ≤ cb := by rw [← hcb]; exact hwsB
                      rw [hcb] at ZN ⊢
                      clear hcb
                      have z0 := ZN.out.cell 0
                      have z1 := ZN.out.cell 1
                      have z2 := ZN.out.cell 2
                      have z3 := ZN.out.cell 3
                      have z4 := ZN.out.cell 4
                      have a5 := AB.out.cell 5
                      simp only [List.getElem?_toArray, List.getElem?_cons_zero, List.getElem?_cons_succ] at z0 z1 z2 z3 z4 a5
                      obtain ⟨A3, c3, rfl, hc3⟩ := own_len WV.out
                      have HLN := Lib.hid (show ((T.take m4).map (wrC (wrs s k d))).length ≤ 10 by rw [List.length_map, List.length_take]; omega)
                      obtain ⟨L, hL⟩ : ∃ L, (T.take m4).map (wrC (wrs s k d)) = L := ⟨_, rfl⟩
                      have HL := Lib.hid hL
                      rw [hL] at WV HLN hc3 a5 AB
                      clear hL
                      have hLl := HLN.out
                      have hlk0 := fun W' (h : W'.heap[mw]? = W.heap[mw]?) => HLK.out W' (M19.out.same h)
                      unfold nmV nmA at hlk0
                      have hba := ((Below.refl W.heap.size W).alloc (Nat.le_refl _) (.cells #[.int .i64 n.kind, .string (bs n.owner), .int .i64 n.num, .int .i64 n.idx, .string (bs n.text), .string (bs x), .bool false] 87)).drew
                      have ABV := Lib.hid (AB.out.next hba AB.out.lt)
                      have WVV := Lib.hid (OwnP.next WV.out hba)
                      have ZV := Lib.hid (ZN.out.next hba ZN.out.lt)
                      have MV := Lib.hid (M19.out.next hba)
                      have OTV := Lib.hid (out_next OT2.out hba)
                      have hmV := hba.block mw M19.out.lt
                      obtain ⟨i1, hi1, hy0, hy1, hy2⟩ := info_parts infoCh
                      have hW1 : wB.heap.size ≤ W.heap.size + 1 := Nat.le_trans hwsW (Nat.le_succ _)
                      refine wp_region_noPanic ?_
                      refine wp_region_last (S := (fun (w' : World) => w'.cell? ⟨w.heap.size + 1 + 1 + 1, 5, none⟩ = some (.slice A3 L.length c3) ∧ w'.cell? ⟨cb, 0, none⟩ = some (.int .i64 n.kind) ∧ w'.cell? ⟨cb, 1, none⟩ = some (.string (bs n.owner)) ∧ w'.cell? ⟨cb, 2, none⟩ = some (.int .i64 n.num) ∧ w'.cell? ⟨cb, 3, none⟩ = some (.int .i64 n.idx) ∧ w'.cell? ⟨cb, 4, none⟩ = some (.string (bs n.text)) ∧ w'.heap[mw]? = W.heap[mw]?)) 10 10 rfl (by kernel_rfl) (by kernel_rfl) ?_ (fun hHeld => ?_)
                      · exact ⟨a5, z0, z1, z2, z3, z4, rfl⟩
                      refine wpAnyH_take (i := 0) (v := ?_) rfl (by kernel_rfl) (by kernel_rfl) (by kernel_rfl) (fun _ _ _ h => h) (Or.inl ⟨by kernel_rfl, ?_⟩) hHeld ?_
                      rotate_left
                      · (intro w hSw; (try dsimp only at hSw); go_simp; try with_reducible rfl)
                      try simp only [Act.put, List.setIfInBounds_toArray, List.set_cons_zero, List.set_cons_succ]
                      refine wpAnyH_take (i := 1) (v := ?_) rfl (by kernel_rfl) (by kernel_rfl) (by kernel_rfl) (fun _ _ _ h => h) (Or.inl ⟨by kernel_rfl, ?_⟩) hHeld ?_
                      rotate_left
                      · (intro w hSw; (try dsimp only at hSw); go_simp; try with_reducible rfl)
                      try simp only [Act.put, List.setIfInBounds_toArray, List.set_cons_zero, List.set_cons_succ]
                      refine wpAnyH_take (i := 2) (v := ?_) rfl (by kernel_rfl) (by kernel_rfl) (by kernel_rfl) (fun _ _ _ h => h) (Or.inl ⟨by kernel_rfl, ?_⟩) hHeld ?_
                      rotate_left
                      · (intro w hSw; (try dsimp only at hSw); go_simp; try with_reducible rfl)
                      try simp only [Act.put, List.setIfInBounds_toArray, List.set_cons_zero, List.set_cons_succ]
                      refine wpAnyH_take (i := 3) (v := ?_) rfl (by kernel_rfl) (by kernel_rfl) (by kernel_rfl) (fun _ _ _ h => h) (Or.inl ⟨by kernel_rfl, ?_⟩) hHeld ?_
                      rotate_left
                      · (intro w hSw; (try dsimp only at hSw); go_simp; try with_reducible rfl)
                      try simp only [Act.put, List.setIfInBounds_toArray, List.set_cons_zero, List.set_cons_succ]
                      refine wpAnyH_take (i := 4) (v := ?_) rfl (by kernel_rfl) (by kernel_rfl) (by kernel_rfl) (fun _ _ _ h => h) (Or.inl ⟨by kernel_rfl, ?_⟩) hHeld ?_
                      rotate_left
                      · (intro w hSw; (try dsimp only at hSw); go_simp; try with_reducible rfl)
                      try simp only [Act.put, List.setIfInBounds_toArray, List.set_cons_zero, List.set_cons_succ]
                      refine wpAnyH_take (i := 5) (v := ?_) rfl (by kernel_rfl) (by kernel_rfl) (by kernel_rfl) (fun _ _ _ h => h) (Or.inl ⟨by kernel_rfl, ?_⟩) hHeld ?_
                      rotate_left
                      · (intro w hSw; (try dsimp only at hSw); go_simp; try with_reducible rfl)
                      try simp only [Act.put, List.setIfInBounds_toArray, List.set_cons_zero, List.set_cons_succ]
                      refine wpAnyH_take (i := 6) (v := ?_) rfl (by kernel_rfl) (by kernel_rfl) (by kernel_rfl) (fun _ _ _ h => h) (Or.inl ⟨by kernel_rfl, ?_⟩) hHeld ?_
                      rotate_left
                      · (intro w hSw; (try dsimp only at hSw); go_simp; try with_reducible rfl)
                      try simp only [Act.put, List.setIfInBounds_toArray, List.set_cons_zero, List.set_cons_succ]
                      refine wpAnyH_ready (rs := [7]) (by kernel_rfl) (by simp) ?_
                      refine AllReadyH.cons rfl (fun K hK => ?_) AllReadyH.nil
                      go_simp
                      refine hK.out _ _ ?_ (fun hNew => ?_)
                      · exact ⟨(World.cell?_alloc_lt W _ _ AB.out.lt).trans a5, (World.cell?_alloc_lt W _ _ ZN.out.lt).trans z0, (World.cell?_alloc_lt W _ _ ZN.out.lt).trans z1, (World.cell?_alloc_lt W _ _ ZN.out.lt).trans z2, (World.cell?_alloc_lt W _ _ ZN.out.lt).trans z3, (World.cell?_alloc_lt W _ _ ZN.out.lt).trans z4, hmV⟩
                      clear hK K hHeld
                      have hHeld := hNew
                      clear hNew
                      try simp only [Act.put, List.setIfInBounds_toArray, List.set_cons_zero, List.set_cons_succ]
                      refine wpAnyH_ready (rs := [8]) (by kernel_rfl) (by simp) ?_
                      refine AllReadyH.cons rfl (fun K hK => ?_) AllReadyH.nil
                      refine step_append_w _ (by rfl) _ _ _ (by rfl) wB.heap.size 87 i1 _ 7 80 Try.underlying57 hi1 hy0 hy1 hy2 rfl (by omega) (.slice A3 L.length c3) L.length (L.flatMap chC) (by rfl) WVV.out (.slice (some ⟨W.heap.size, 0, none⟩) 1 1) 1 [.int .i64 n.kind, .string (bs n.owner), .int .i64 n.num, .int .i64 n.idx, .string (bs n.text), .string (bs x), .bool false] (by rfl) (Rd.of_own (own_new W 0 87 7 [.int .i64 n.kind, .string (bs n.owner), .int .i64 n.num, .int .i64 n.idx, .string (bs n.text), .string (bs x), .bool false] rfl (Nat.zero_le _))) (by omega) (by rfl) (by simp [Value.oneCell']) (by unfold maxLen; omega) (by omega) (by simp; omega) ?_; intro v8 w8 hown8 hg8 hat8; obtain ⟨A8, c8, rfl, _⟩ := own_len hown8; have hA8 := ABV.out.grown hg8 (own_apart_blk47 WVV.out ABV.out (by decide)); have hZ8 := ZV.out.grown hg8 (own_apart_blk47 WVV.out ZV.out (by decide)); have HO8 := Lib.hid hown8; have HA8 := Lib.hid hA8; have OT8 := Lib.hid (out_step OTV.out (Outer.of_grown hg8 (fun g hg => .inr (own_ge WVV.out hg)))); have hm8 := (hg8.block mw MV.out.lt (fun e => own_not_mapAt WVV.out MV.out e.symm)).trans hmV; have r5 := hA8.cell 5; have rf := hA8.frozen 5; have e0 := hZ8.cell 0; have e1 := hZ8.cell 1; have e2 := hZ8.cell 2; have e3 := hZ8.cell 3; have e4 := hZ8.cell 4; (simp only [List.getElem?_toArray, List.getElem?_cons_zero, List.getElem?_cons_succ] at r5 e0 e1 e2 e3 e4); clear hown8 hg8 hat8 hA8 hZ8
                      refine hK.out _ _ ?_ (fun hNew => ?_)
                      · exact ⟨r5, e0, e1, e2, e3, e4, hm8⟩
                      clear hK K hHeld
                      have hHeld := hNew
                      clear hNew
                      try simp only [Act.put, List.setIfInBounds_toArray, List.set_cons_zero, List.set_cons_succ]
                      refine wpAnyH_take (i := 9) (v := ?_) rfl (by kernel_rfl) (by kernel_rfl) (by kernel_rfl) (fun _ _ _ h => h) (Or.inl ⟨by kernel_rfl, ?_⟩) hHeld ?_
                      rotate_left
                      · (intro w hSw; (try dsimp only at hSw); go_simp; try with_reducible rfl)
                      try simp only [Act.put, List.setIfInBounds_toArray, List.set_cons_zero, List.set_cons_succ]
                      refine wpAnyH_done (by kernel_rfl) ?_ _
                      refine lastQ_step rfl (fun K hK => ?_)
                      clear hHeld
                      go_simp
                      refine hK _ _ ?_
                      clear hK K
                      refine NoPanic.normal ?_
                      have OT9 : Hid (Outer (F47 (w.heap.size + 1 + 1 + 1) wB.heap.size) wB (w8.setCell ⟨w.heap.size + 1 + 1 + 1, 5, none⟩ (.slice A8 (L.length + 1) c8))) := Lib.hid (out_step OT8.out (Outer.of_grown (row := some (w.heap.size + 1 + 1 + 1)) (only_setCell (only_of_below (Below.refl _ _) _) (.inl rfl) _) (fun g hg => .inl (by injection hg with hg; exact hg.symm))))
                      have W9 : Hid (OwnP 87 7 chC (w8.setCell ⟨w.heap.size + 1 + 1 + 1, 5, none⟩ (.slice A8 (L.length + 1) c8)) wB.heap.size (.slice A8 (L.length + 1) c8) ((T.take (m4 + 1)).map (wrC (wrs s k d)))) := Lib.hid (by
                        rw [HTK.out, List.map_append, HL.out, List.map_singleton, HRC.out]
                        refine OwnP.snoc (own_same HO8.out fun z hz => Below.heap_setCell w8 ⟨w.heap.size + 1 + 1 + 1, 5, none⟩ _ _ (fun e => by have := own_ge HO8.out hz; have e2 : z = w.heap.size + 1 + 1 + 1 := e; omega)))
                      have A9 := Lib.hid (HA8.out.set_ 5 (.slice A8 (L.length + 1) c8))
                      clear r5 e0 e1 e2 e3 e4 z0 z1 z2 z3 z4 a5 hlk0 hmV hm8 hW1
                      go_wp2_with fail
                      go_roundw
                      case rel => exact ⟨m4 + 1, by omega, by go_num, _, OT9.out, A9.out, W9.out⟩
                      case measure => simp [intOf]; omega
                    · have j2 : decide ((m4 : Int) < (T.length : Int)) = false := decide_eq_false (by omega)
                      have HGE := Lib.hid (show T.take m4 = T by rw [List.take_of_length_le (by omega)])
                      rw [HGE.out] at hWV
                      obtain ⟨wD, rfl⟩ : ∃ wD, wD = wr := ⟨_, rfl⟩
                      have hsbw := HS.out.lt
                      have hmwB := M17.out.lt
                      have hsD := hOT.size
                      have hmab : mw ≠ w.heap.size + 1 + 1 + 1 := fun e => M17.out.noCells P17.out.ab (congrArg some e.symm)
                      have M20 := Lib.hid (M17.out.same (hOT.block mw hmwB (fun hf => by rcases hf with e | e; exact hmab e; omega)))
                      have S20 := Lib.hid ((HS.out.next P17.out.fr).same (hOT.block sb (by omega) (fun hf => by rcases hf with e | e <;> omega)))
                      have OT := Lib.hid hOT
                      have AB := Lib.hid hAB
                      have WV := Lib.hid hWV
                      have RB := Lib.hid (P17.out.rb.out_ hOT (fun hf => by have := P17.out.rb.lt; rcases hf with e | e <;> omega))
                      have KPW := Lib.hid HWD.out.2.1
                      clear hOT hAB hWV HGE hml4 N17
                      go_wp2_with (at_range; refine wpList_range_nm _ rfl _ _ rfl Try.underlying54 mw ents rfl M20.out ?_; intro w7b hit7 hb7 hs7; have HIT7b := Lib.hid hit7; have HB7b := Lib.hid hb7; clear hit7 hb7 hs7)
                      try go_frame
                      obtain ⟨r2, hr2⟩ : ∃ r2, wD.heap.size = r2 := ⟨_, rfl⟩
                      have HR2 := Lib.hid hr2
                      rw [hr2] at HIT7b ⊢
                      have H0 : Hid (p5Rel wD sb mw r2 s ents w7b) := Lib.hid ⟨[], ents, HIT7b.out, List.Perm.refl _, S20.out.next HB7b.out, Outer.of_below HB7b.out⟩
                      clear hr2
                      go_loopw [25] (fun _ wr => p5Rel wD sb mw r2 s ents wr) (fun _ wr => wr.rangeLeft mw r2)
                      case atStart => exact H0.out
                      case round =>
                        clear H0
                        obtain ⟨seen5, left5, hit5, hpm5, hsm5, hot5⟩ := hrel
                        have IT5 := Lib.hid hit5
                        have PM5 := Lib.hid hpm5
                        have SM5 := Lib.hid hsm5
                        have OT5 := Lib.hid hot5
                        clear hit5 hpm5 hsm5 hot5
                        go_wp2_with (at_next; refine wpList_next_nm _ rfl _ rfl mw r2 ents left5 rfl IT5.out ?_ ?_)
                        · intro hleft5
                          have HPD := Lib.hid (put_done s (seen := seen5) (W := wrs s k d) (by have := PM5.out; rw [hleft5, List.append_nil, ← HEN.out] at this; exact this) KPW.out)
                          clear hleft5
                          obtain ⟨WW, hWW⟩ : ∃ WW, T.map (wrC (wrs s k d)) = WW := ⟨_, rfl⟩
                          rw [hWW] at WV HTT
                          clear hWW
                          have hsbw := HS.out.lt
                          have hab0 := P17.out.ab.lt
                          have hrb0 := P17.out.rb.lt
                          have hsD := OT.out.size
                          have AB5 := Lib.hid (AB.out.out_ OT5.out (fun hf => by rcases hf with e | e <;> omega))
                          have RB5 := Lib.hid (RB.out.out_ OT5.out (fun hf => by rcases hf with e | e <;> omega))
                          have R20 := Lib.hid (rd_out_ (show RdCh wB rv RR from Rd.of_own R17.out) OT.out (f47_cells P17.out.ab (by decide) (Nat.le_refl _)))
                          have hsbD := S20.out
                          have hfc : ∀ i cs fr, i < wD.heap.size → F47 sb wD.heap.size i → wD.heap[i]? ≠ some (.cells cs 87 fr) := by
                            intro i cs fr hi hf
                            rcases hf with rfl | hf
                            · exact hsbD.isMap
                            · omega
                          have R21 := Lib.hid (rd_out_ R20.out OT5.out hfc)
                          have W21 := Lib.hid (rd_out_ (show RdCh wD wv WW from Rd.of_own WV.out) OT5.out hfc)
                          have S21 := Lib.hid (SM5.out.congr (s' := nxtS s k d) HPD.out)
                          have a0 := AB5.out.cell 0
                          have a1 := AB5.out.cell 1
                          have a2 := AB5.out.cell 2
                          have a3 := AB5.out.cell 3
                          have a4 := AB5.out.cell 4
                          have a5 := AB5.out.cell 5
                          have b0 := RB5.out.cell 0
                          have b1 := RB5.out.cell 1
                          have b2 := RB5.out.cell 2
                          have b3 := RB5.out.cell 3
                          have b4 := RB5.out.cell 4
                          have b5 := RB5.out.cell 5
                          have f0 := RB5.out.frozen 0
                          have f1 := RB5.out.frozen 1
                          have f2 := RB5.out.frozen 2
                          have f3 := RB5.out.frozen 3
                          have f4 := RB5.out.frozen 4
                          have f5 := RB5.out.frozen 5
                          simp only [List.getElem?_toArray, List.getElem?_cons_zero, List.getElem?_cons_succ] at a0 a1 a2 a3 a4 a5 b0 b1 b2 b3 b4 b5
                          obtain ⟨Ar, cr, rfl, _⟩ := RdP.form R21.out
                          obtain ⟨Aw, cw, rfl, _⟩ := RdP.form W21.out
                          clear hfc hsbD
                          go_wp2_with fail
                          clear a0 a1 a2 a3 a4 a5 b0 b1 b2 b3 b4 b5 f0 f1 f2 f3 f4 f5
                          obtain ⟨hb6, hg6⟩ := set6_ (.int .i64 k.tick) (.int .i64 k.cls) (.int .i64 k.num) (.string (bs k.lin)) (.slice Ar RR.length cr) (.slice Aw WW.length cw) RB5.out
                          have q0 := hb6.cell 0
                          have q1 := hb6.cell 1
                          have q2 := hb6.cell 2
                          have q3 := hb6.cell 3
                          have q4 := hb6.cell 4
                          have q5 := hb6.cell 5
                          simp only [List.getElem?_toArray, List.getElem?_cons_zero, List.getElem?_cons_succ] at q0 q1 q2 q3 q4 q5
                          clear hb6
                          have R22 := Lib.hid (Rd.blk R21.out RB5.out hg6 (by decide))
                          have W22 := Lib.hid (Rd.blk W21.out RB5.out hg6 (by decide))
                          have hsb5 := SM5.out.lt
                          have S22 := Lib.hid (S21.out.same (hg6.block sb hsb5 (fun e => by injection e with e; omega)))
                          have hws := P17.out.fr.size
                          have OF : Hid (Outer (fun i => i = sb) w ((((((wr.setCell ⟨w.heap.size + 1 + 1, 0, none⟩ (.int .i64 k.tick)).setCell ⟨w.heap.size + 1 + 1, 1, none⟩ (.int .i64 k.cls)).setCell ⟨w.heap.size + 1 + 1, 2, none⟩ (.int .i64 k.num)).setCell ⟨w.heap.size + 1 + 1, 3, none⟩ (.string (bs k.lin))).setCell ⟨w.heap.size + 1 + 1, 4, none⟩ (.slice Ar RR.length cr)).setCell ⟨w.heap.size + 1 + 1, 5, none⟩ (.slice Aw WW.length cw))) := Lib.hid {
                            os := hg6.os.trans (OT5.out.os.trans (OT.out.os.trans P17.out.fr.os))
                            tape := hg6.tape.trans (OT5.out.tape.trans (OT.out.tape.trans P17.out.fr.tape))
                            output := hg6.output.trans (OT5.out.output.trans (OT.out.output.trans P17.out.fr.output))
                            size := Nat.le_trans (Nat.le_trans (Nat.le_trans hws hsD) OT5.out.size) hg6.size
                            block := fun i hi hf => by
                              have h1 : i ≠ sb := hf
                              have h2 := hg6.block i (by have := OT5.out.size; omega) (fun e => by injection e with e; omega)
                              have h3 := OT5.out.block i (by omega) (fun hf => by rcases hf with e | e <;> omega)
                              have h4 := OT.out.block i (by omega) (fun hf => by rcases hf with e | e <;> omega)
                              have h5 := P17.out.fr.block i hi
                              exact h2.trans (h3.trans (h4.trans h5)) }
                          clear hg6
                          have HKEY := Lib.hid (show (prf s k d).key = k from rfl)
                          generalize ((((((wr.setCell ⟨w.heap.size + 1 + 1, 0, none⟩ (.int .i64 k.tick)).setCell ⟨w.heap.size + 1 + 1, 1, none⟩ (.int .i64 k.cls)).setCell ⟨w.heap.size + 1 + 1, 2, none⟩ (.int .i64 k.num)).setCell ⟨w.heap.size + 1 + 1, 3, none⟩ (.string (bs k.lin))).setCell ⟨w.heap.size + 1 + 1, 4, none⟩ (.slice Ar RR.length cr)).setCell ⟨w.heap.size + 1 + 1, 5, none⟩ (.slice Aw WW.length cw)) = w30 at *
                          have hread : NAc w30 (.slice Ar RR.length cr, .slice Aw WW.length cw) (prf s k d) := ⟨by rw [← HRR.out]; exact R22.out, by rw [← HTT.out]; exact W22.out⟩
                          have HRE := Lib.hid hread
                          have HFIN : Hid (∃ u1 u2, Ending.returned (.agg #[.int .i64 k.tick, .int .i64 k.cls, .int .i64 k.num, .string (bs k.lin), .slice Ar RR.length cr, .slice Aw WW.length cw]) = Ending.returned (.agg #[.int .i64 (prf s k d).key.tick, .int .i64 (prf s k d).key.cls, .int .i64 (prf s k d).key.num, .string (bs (prf s k d).key.lin), u1, u2]) ∧ NAc w30 (u1, u2) (prf s k d) ∧ SMap w30 sb (nxtS s k d) ∧ Outer (fun i => i = sb) w w30) := Lib.hid ⟨.slice Ar RR.length cr, .slice Aw WW.length cw, by rw [HKEY.out], HRE.out, S22.out, OF.out⟩
                          clear hread
                          obtain ⟨rbn, hrbn⟩ : ∃ rbn, w.heap.size + 1 + 1 = rbn := ⟨_, rfl⟩
                          rw [hrbn] at q0 q1 q2 q3 q4 q5 ⊢
                          clear hrbn
                          exact bodyPost_ret (v := .agg #[.int .i64 k.tick, .int .i64 k.cls, .int .i64 k.num, .string (bs k.lin), .slice Ar RR.length cr, .slice Aw WW.length cw]) (by simp [results, Try.results22, go_sem, q0, q1, q2, q3, q4, q5]) rfl HFIN.out
                        · intro n v left' w8 hpm2 hpe hit8 hg8 hs8 hen8
                          rw [← HEN.out] at hpe
                          obtain ⟨qq, hqm, hqe⟩ := List.mem_map.1 hpe
                          obtain ⟨n1, x1⟩ := qq
                          simp only [Prod.mk.injEq] at hqe
                          obtain ⟨rfl, rfl⟩ := hqe
                          have hr2ge := HR2.out
                          have S8 := Lib.hid (SM5.out.same (hg8.block sb SM5.out.lt (fun e => by injection e with e; omega)))
                          have OT8 := Lib.hid (out_step OT5.out (Outer.of_grown hg8 (fun g hg => .inr (by injection hg with hg; omega))))
                          have IT8 := Lib.hid hit8
                          have HS8 := Lib.hid hs8
                          have PM8 : Hid ((seen5.map encS ++ encS (n1, x1) :: left').Perm ents) := Lib.hid ((List.Perm.append_left _ hpm2.symm).trans PM5.out)
                          have PM2 := Lib.hid hpm2.length_eq
                          have hkn : ∀ p ∈ seen5, p.1 ≠ n1 := by
                            have h1 : ((seen5.map encS ++ encS (n1, x1) :: left').map Prod.fst).Nodup := by
                              rw [(PM8.out.map Prod.fst).nodup_iff, HEK.out]
                              unfold List.Nodup
                              rw [List.pairwise_map]
                              exact KPW.out
                            rw [List.map_append, List.nodup_append] at h1
                            intro p hp e
                            exact h1.2.2 p.1 (List.mem_map.2 ⟨encS p, List.mem_map.2 ⟨p, hp, rfl⟩, rfl⟩) n1 (by simp [encS]) e
                          have HKN := Lib.hid hkn
                          have hb89 := (Below.refl w8.heap.size w8).alloc (Nat.le_refl _) (.cells #[.int .i64 n1.kind, .string (bs n1.owner), .int .i64 n1.num, .int .i64 n1.idx, .string (bs n1.text)] 41)
                          obtain ⟨w10, hput, hbm, hg10⟩ := (S8.out.next hb89).put n1 x1
                          have IT9 := IT8.out.next hb89
                          have IT10 := Lib.hid (IT9.grown hg10 (fun e => by injection e with e; have := HMW.out; omega) (fun e => by injection e with e; omega))
                          have S10 := Lib.hid (hbm.congr (putS_snoc s seen5 n1 x1 HKN.out))
                          have OT10 := Lib.hid (out_step (out_next OT8.out hb89) (Outer.of_grown hg10 (fun g hg => .inl (by injection hg with hg; exact hg.symm))))
                          simp only [nmV, nmA] at hen8 hput ⊢
                          clear hpm2 hpe hit8 hg8 hs8 hbm hg10 hkn hqm IT9 hb89
                          go_wp2_with fail
                          go_roundw
                          case rel =>
                            refine ⟨seen5 ++ [(n1, x1)], left', IT10.out, ?_, S10.out, OT10.out⟩
                            rw [List.map_append, List.append_assoc]
                            exact PM8.out
                          case measure =>
                            show w10.rangeLeft mw r2 < wr.rangeLeft mw r2
                            rw [IT10.out.size, IT5.out.size, PM2.out]
                            simp
                · intro n v left' w8 hpm2 hpe hit8 hg8 hs8 hen8
                  have HPM2 := Lib.hid hpm2
                  have HIT8 := Lib.hid hit8
                  have HS8 := Lib.hid hs8
                  have ho8 := HO.out.kept hg8 (.inr (fun e1 => (own_not_it HO.out HIT.out).2 e1.symm))
                  have HO8 := Lib.hid ho8
                  have HB8 : Hid (Below wb.heap.size wb w8) := Lib.hid (HBW.out.trans ⟨hg8.os, hg8.tape, hg8.output, hg8.size, fun i hi => hg8.block i (Nat.lt_of_lt_of_le hi HBW.out.size) (fun e1 => by injection e1 with e1; have := HRG.out; omega)⟩)
                  simp only [nmV, nmA] at hen8 ⊢
                  have hb89 := (Below.refl w8.heap.size w8).alloc (Nat.le_refl _) (.cells #[.int .i64 n.kind, .string (bs n.owner), .int .i64 n.num, .int .i64 n.idx, .string (bs n.text)] 41)
                  have HB89 := Lib.hid hb89
                  clear hpm2 hpe hit8 hg8 hs8 hb89 ho8
                  go_wp2_with (at_builtin; refine wpList_append_w _ rfl _ _ _ rfl wb.heap.size 41 i0 _ 5 56 Try.underlying85 hi hz0 hz1 hz2 rfl (by omega) (.slice A3 seen.length c3) seen.length (seen.flatMap nmC) rfl (own_next (own_next HO8.out HB89.out) ((Below.refl _ _).alloc (Nat.le_refl _) _)) (.slice (some ⟨w8.heap.size + 1, 0, none⟩) 1 1) 1 [.int .i64 n.kind, .string (bs n.owner), .int .i64 n.num, .int .i64 n.idx, .string (bs n.text)] rfl (by have h := own_new (w8.alloc (.cells #[.int .i64 n.kind, .string (bs n.owner), .int .i64 n.num, .int .i64 n.idx, .string (bs n.text)] 41)) 0 41 5 [.int .i64 n.kind, .string (bs n.owner), .int .i64 n.num, .int .i64 n.idx, .string (bs n.text)] rfl (Nat.zero_le _); rw [World.size_alloc] at h; exact Rd.of_own h) (by omega) rfl (by simp [Value.oneCell']) (by unfold maxLen; omega) (by omega) (by have := HB8.out.size; simp; omega) ?_; intro v5 w10 hown5 hg5 hat5; have HO5 := Lib.hid hown5; have HG5 := Lib.hid hg5; clear hown5 hg5 hat5)
                  clear hen8
                  have HIT9 := Lib.hid (HIT8.out.next (HB89.out.alloc HB89.out.size (.cells #[.int .i64 n.kind, .string (bs n.owner), .int .i64 n.num, .int .i64 n.idx, .string (bs n.text)] 41)))
                  have HO9 := Lib.hid (own_next (own_next HO8.out HB89.out) ((Below.refl _ _).alloc (Nat.le_refl _) (.cells #[.int .i64 n.kind, .string (bs n.owner), .int .i64 n.num, .int .i64 n.idx, .string (bs n.text)] 41)))
                  have hne := own_not_it HO9.out HIT9.out
                  have HIT10 := Lib.hid (HIT9.out.grown HG5.out hne.1 hne.2)
                  have hb5 : Below wb.heap.size w8 w10 := below_own ((HB89.out.alloc HB89.out.size (.cells #[.int .i64 n.kind, .string (bs n.owner), .int .i64 n.num, .int .i64 n.idx, .string (bs n.text)] 41)).mono HB8.out.size) HO9.out HG5.out (Nat.le_refl _) (by have := HB8.out.size; simp; omega)
                  have HB5 := Lib.hid hb5
                  clear hb5 hne
                  go_wp2_with fail
                  go_roundw
                  case rel =>
                    refine ⟨seen ++ [n], left', HIT10.out, ?_, ?_, HB8.out.trans HB5.out⟩
                    · refine List.Perm.trans ?_ HPM.out
                      have h1 : (left.map Prod.fst).Perm (n :: left'.map Prod.fst) := HPM2.out.map Prod.fst
                      rw [List.append_assoc]
                      exact (List.Perm.append_left seen h1).symm
                    · rw [List.flatMap_append, List.length_append]
                      exact HO5.out
                  case measure =>
                    show w10.rangeLeft mw r < wr.rangeLeft mw r
                    rw [HIT10.out.size, HIT.out.size, HPM2.out.length_eq]
                    simp
end Go.Proofs.Ytmjkcanjfjfkfaa
