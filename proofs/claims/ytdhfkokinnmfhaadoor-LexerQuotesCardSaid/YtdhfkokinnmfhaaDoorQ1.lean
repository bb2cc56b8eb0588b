/- Plain functions of layer 21: what the lexer answers. -/
import Derived.Test.YtdhfkokinnmfhaaDoorX1
import Derived.Laws.BytesArg
import Derived.Lib.Strings
import Derived.Lib.SlicesS
namespace Go.Proofs.YtdhfkokinnmfhaaDoor
set_option linter.unusedSimpArgs false
set_option linter.unusedVariables false
def hexV (n : Int) : Int := if digI n = true then n - 48 else n - 87
theorem hexV_bd (n : Int) (h : hexI n = true) : 0 ≤ hexV n ∧ hexV n < 16 := by
  unfold hexV
  unfold hexI digI at *
  split
  · simp_all; omega
  · simp_all; omega
/-- 1 plus the byte for which an escape stands, or 0. -/
def escT (n : Int) : Int := if n = 110 then 11 else if n = 116 then 10 else if n = 48 then 1 else if n = 92 then 93 else if n = 39 then 40 else if n = 34 then 35 else 0
/-- What escape returns: the byte, the offset, the error. -/
def escS (s : ByteArray) (k : Nat) : Int × Int × Int :=
  if k + 1 = s.size then (0, 0, 4)
  else if bt s (k + 1) ≠ 120 then (if 128 ≤ bt s (k + 1) ∨ escT (bt s (k + 1)) = 0 then (0, k + 1, 6) else (escT (bt s (k + 1)) - 1, k + 2, 0))
  else if k + 2 = s.size then (0, 0, 4)
  else if hexI (bt s (k + 2)) = false then (0, k + 2, 6)
  else if k + 3 = s.size then (0, 0, 4)
  else if hexI (bt s (k + 3)) = false then (0, k + 3, 6)
  else (16 * hexV (bt s (k + 2)) + hexV (bt s (k + 3)), k + 4, 0)
/-- What one returns. -/
def oneS (s : ByteArray) (k : Nat) (q : Int) : Int × Int × Int :=
  if k = s.size then (0, 0, 4)
  else if bt s k = 92 then escS s k
  else if bt s k = q ∨ bt s k < 32 ∨ 126 < bt s k then (0, k, 6)
  else (bt s k, k + 1, 0)
def kws : List ByteArray := [⟨#[98, 114, 101, 97, 107]⟩, ⟨#[99, 111, 110, 116, 105, 110, 117, 101]⟩, ⟨#[101, 108, 115, 101]⟩, ⟨#[102, 117, 110, 99]⟩, ⟨#[105, 102]⟩, ⟨#[114, 101, 116, 117, 114, 110]⟩, ⟨#[118, 97, 114]⟩, ⟨#[119, 104, 105, 108, 101]⟩]
def syms : List ByteArray := [⟨#[33]⟩, ⟨#[33, 61]⟩, ⟨#[37]⟩, ⟨#[38]⟩, ⟨#[38, 38]⟩, ⟨#[40]⟩, ⟨#[41]⟩, ⟨#[42]⟩, ⟨#[43]⟩, ⟨#[44]⟩, ⟨#[45]⟩, ⟨#[47]⟩, ⟨#[59]⟩, ⟨#[60]⟩, ⟨#[60, 60]⟩, ⟨#[60, 61]⟩, ⟨#[61]⟩, ⟨#[61, 61]⟩, ⟨#[62]⟩, ⟨#[62, 61]⟩, ⟨#[62, 62]⟩, ⟨#[91]⟩, ⟨#[93]⟩, ⟨#[94]⟩, ⟨#[123]⟩, ⟨#[124]⟩, ⟨#[124, 124]⟩, ⟨#[125]⟩, ⟨#[126]⟩]
/-- What was found at a place. -/
structure Att where
  kind : Int
  text : ByteArray
  value : Int
  bytes : ByteArray
  size : Nat
  off : Int
  e : Int
def attE (off e : Int) : Att := ⟨0, ⟨#[]⟩, 0, ⟨#[]⟩, 0, off, e⟩
def wordS (s : ByteArray) : Option Att :=
  if ltrI (bt s 0) = false then none
  else if 32 < leadB alnI s then some (attE 0 5)
  else some ⟨if Lib.containsS kws (s.extract 0 (leadB alnI s)) = true then 4 else 1, s.extract 0 (leadB alnI s), 0, ⟨#[]⟩, leadB alnI s, 0, 0⟩
def hexF (n : Int) : List UInt8 → Int
  | [] => n
  | b :: l => hexF (16 * n + hexV (b.toNat : Int)) l
def decS (n : Int) : List UInt8 → Int × Int
  | [] => (n, 0)
  | b :: l => if 4294967295 < n * 10 + ((b.toNat : Int) - 48) then (0, 2) else decS (n * 10 + ((b.toNat : Int) - 48)) l
def valS (s : ByteArray) : Int × Int :=
  if 2 ≤ s.size ∧ bt s 0 = 48 ∧ bt s 1 = 120 then
    (if s.size < 3 ∨ 10 < s.size ∨ leadB hexI (s.extract 2 s.size) < s.size - 2 then (0, 3) else (hexF 0 (s.extract 2 s.size).data.toList, 0))
  else if leadB digI s < s.size ∨ (bt s 0 = 48 ∧ 1 < s.size) then (0, 3)
  else decS 0 s.data.toList
def numS (s : ByteArray) : Option Att :=
  if digI (bt s 0) = false then none
  else if (valS (s.extract 0 (leadB alnI s))).2 ≠ 0 then some (attE 0 (valS (s.extract 0 (leadB alnI s))).2)
  else some ⟨2, s.extract 0 (leadB alnI s), (valS (s.extract 0 (leadB alnI s))).1, ⟨#[]⟩, leadB alnI s, 0, 0⟩
def charS (s : ByteArray) : Option Att :=
  if bt s 0 ≠ 39 then none
  else if (oneS s 1 39).2.2 ≠ 0 then some (attE (oneS s 1 39).2.1 (oneS s 1 39).2.2)
  else if (oneS s 1 39).2.1 = s.size then some (attE 0 4)
  else if bt s (oneS s 1 39).2.1.toNat ≠ 39 then some (attE (oneS s 1 39).2.1 6)
  else some ⟨2, s.extract 0 ((oneS s 1 39).2.1.toNat + 1), (oneS s 1 39).1, ⟨#[]⟩, (oneS s 1 39).2.1.toNat + 1, 0, 0⟩
/-- The rest of a string, from an offset, with what was denoted before. -/
def quoL (s : ByteArray) : Nat → Nat → List Int → Att
  | 0, _, _ => attE 0 0
  | f + 1, k, acc =>
    if k < s.size ∧ bt s k = 34 then (if 200 < acc.length then attE 0 5 else ⟨3, s.extract 0 (k + 1), 0, strOfNums acc, k + 1, 0, 0⟩)
    else if (oneS s k 34).2.2 ≠ 0 then attE (oneS s k 34).2.1 (oneS s k 34).2.2
    else quoL s f (oneS s k 34).2.1.toNat (acc ++ [(oneS s k 34).1])
def quoS (s : ByteArray) : Option Att :=
  if bt s 0 ≠ 34 then none else some (quoL s s.size 1 [])
/-- Does a text begin with another one? -/
def preB (s x : ByteArray) : Bool := Lib.hasPrefix s.data.toList x.data.toList
def symF (s : ByteArray) (t x : ByteArray) : ByteArray := if t.size < x.size ∧ preB s x = true then x else t
def symT (s : ByteArray) : ByteArray := syms.foldl (symF s) ⟨#[]⟩
def symS (s : ByteArray) : Option Att :=
  if (symT s).size = 0 then none else some ⟨5, symT s, 0, ⟨#[]⟩, (symT s).size, 0, 0⟩
def findS (s : ByteArray) : Option Att :=
  match wordS s with
  | some a => some a
  | none => match numS s with
    | some a => some a
    | none => match charS s with
      | some a => some a
      | none => match quoS s with
        | some a => some a
        | none => symS s
end Go.Proofs.YtdhfkokinnmfhaaDoor
