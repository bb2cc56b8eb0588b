/- Plain functions of layer 41: what scanning and parsing give. -/
import Derived.Below
import Derived.Laws.Strings
namespace Go.Proofs.Ytiddchpkmcncdaa
open Go.RowKit
set_option linter.unusedSimpArgs false
set_option linter.unusedVariables false
abbrev Bs := List UInt8
def n8 (b : UInt8) : Int := (b.toNat : Int)
def ltrI (n : Int) : Bool := (decide (65 ≤ n) && decide (n ≤ 90)) || (decide (97 ≤ n) && decide (n ≤ 122)) || decide (n = 95)
def digI (n : Int) : Bool := decide (48 ≤ n) && decide (n ≤ 57)
def alnI (n : Int) : Bool := ltrI n || digI n
def perI (n : Int) : Bool := (decide (32 ≤ n) && decide (n ≤ 126)) || decide (n = 9)
def blkI (n : Int) : Bool := decide (n = 32) || decide (n = 9)
/-- The byte number i of a text, or 0. -/
def bt (s : ByteArray) (i : Nat) : Int := n8 (s.data.toList.getD i 0)
theorem bt_of (s : ByteArray) (i : Nat) (h : i < s.size) : (s[i].toNat : Int) = bt s i := by
  unfold bt n8
  have h' : i < s.data.toList.length := by simpa using h
  rw [List.getD_eq_getElem?_getD, List.getElem?_eq_getElem h']
  rfl
theorem n8_bd (b : UInt8) : 0 ≤ n8 b ∧ n8 b < 256 := by
  unfold n8
  have := b.toNat_lt
  omega
theorem bt_bd (s : ByteArray) (i : Nat) : 0 ≤ bt s i ∧ bt s i < 256 := n8_bd _
/-- What is left of a text at an offset. -/
def dr (s : ByteArray) (k : Nat) : Bs := s.data.toList.drop k
theorem dr_cons (s : ByteArray) (k : Nat) (h : k < s.size) : dr s k = s.data.toList.getD k 0 :: dr s (k + 1) := by
  unfold dr
  have h' : k < s.data.toList.length := by simpa using h
  rw [List.drop_eq_getElem_cons h', List.getD_eq_getElem?_getD, List.getElem?_eq_getElem h']
  rfl
theorem dr_nil (s : ByteArray) (k : Nat) (h : s.size ≤ k) : dr s k = [] := by
  unfold dr
  exact List.drop_eq_nil_of_le (by simpa using h)
theorem dr_len (s : ByteArray) (k : Nat) : (dr s k).length = s.size - k := by unfold dr; simp
theorem dr_drop (s : ByteArray) (k n : Nat) : (dr s k).drop n = dr s (k + n) := by unfold dr; rw [List.drop_drop]
structure Pc where
  text : Bs
  var : Bool
  quo : Bool
abbrev Wd := List Pc
structure Asg where
  name : Bs
  value : Wd
structure Sm where
  asg : List Asg
  words : List Wd
  inn : Wd
  out : Wd
  app : Bool
structure Pl where
  wh : Int
  stages : List Sm
structure Ln where
  parts : List Pl
  bg : Bool
inductive R (α : Type) where
  | ok (a : α)
  | err (p : Nat) (e : Int)
def isVarS (t : Bs) : Bool := !t.isEmpty && decide (t.length ≤ 16) && ltrI (n8 (t.headD 0)) && t.all (fun b => alnI (n8 b))
def opsL : List Bs := [[124, 124], [38, 38], [62, 62], [124], [38], [59], [60], [62]]
/-- The operator with which a text begins, or nothing. -/
def opAt (l : Bs) : Bs := (opsL.find? fun o => o.isPrefixOf l).getD []
def lit (t : Bs) : Pc := ⟨t, false, false⟩
def flS (ps : Wd) (tx : Bs) : Wd := if tx.isEmpty then ps else ps ++ [lit tx]
def aln8 (b : UInt8) : Bool := alnI (n8 b)
def nap8 (b : UInt8) : Bool := !decide (n8 b = 39)
def neq8 (b : UInt8) : Bool := !decide (n8 b = 61)
/-- What stands between quotation marks. -/
def quoS : Bs → Nat → Nat → Nat → Wd → Bs → R (Wd × Bs × Nat)
  | [], _, _, beg, _, _ => .err beg 4
  | _ :: l, k + 1, p, beg, ps, tx => quoS l k (p + 1) beg ps tx
  | b :: l, 0, p, beg, ps, tx =>
    if n8 b = 34 then .ok (ps, tx, p + 1)
    else if n8 b = 92 then (if l.isEmpty then .err beg 4 else quoS l 1 (p + 1) beg ps (tx ++ [l.headD 0]))
    else if n8 b = 36 then (if isVarS (l.takeWhile aln8) then quoS l (l.takeWhile aln8).length (p + 1) beg (flS ps tx ++ [⟨l.takeWhile aln8, true, true⟩]) [] else .err p 3)
    else quoS l 0 (p + 1) beg ps (tx ++ [b])
/-- The pieces of a word. -/
def wordS : Bs → Nat → Nat → Wd → Bs → R (Wd × Bs × Nat)
  | [], _, p, ps, tx => .ok (ps, tx, p)
  | _ :: l, k + 1, p, ps, tx => wordS l k (p + 1) ps tx
  | b :: l, 0, p, ps, tx =>
    if (blkI (n8 b) || !(opAt (b :: l)).isEmpty) = true then .ok (ps, tx, p)
    else if n8 b = 39 then (if (l.takeWhile nap8).length < l.length then wordS l ((l.takeWhile nap8).length + 1) (p + 1) ps (tx ++ l.takeWhile nap8) else .err p 4)
    else if n8 b = 34 then (match quoS l 0 (p + 1) p ps tx with
      | .ok (ps', tx', q) => wordS l (q - (p + 1)) (p + 1) ps' tx'
      | .err q e => .err q e)
    else if n8 b = 92 then (if l.isEmpty then .err p 4 else wordS l 1 (p + 1) ps (tx ++ [l.headD 0]))
    else if n8 b = 36 then (if isVarS (l.takeWhile aln8) then wordS l (l.takeWhile aln8).length (p + 1) (flS ps tx ++ [⟨l.takeWhile aln8, true, false⟩]) [] else .err p 3)
    else wordS l 0 (p + 1) ps (tx ++ [b])
def finS (ps : Wd) (tx : Bs) : Wd := if (flS ps tx).isEmpty then [lit []] else flS ps tx
/-- The name to which a text assigns. -/
def asgS (l : Bs) : Bs := if (l.takeWhile neq8).length < l.length ∧ isVarS (l.takeWhile neq8) = true then l.takeWhile neq8 else []
structure Tk where
  pos : Nat
  op : Bs
  word : Wd
  name : Bs
def R.cons (t : Tk) : R (List Tk) → R (List Tk)
  | .ok l => .ok (t :: l)
  | .err p e => .err p e
def R.pre (a : List Tk) : R (List Tk) → R (List Tk)
  | .ok l => .ok (a ++ l)
  | .err p e => .err p e
theorem R.pre_nil (r : R (List Tk)) : r.pre [] = r := by cases r <;> rfl
theorem R.pre_cons (a : List Tk) (t : Tk) (r : R (List Tk)) : (r.cons t).pre a = r.pre (a ++ [t]) := by cases r <;> simp [R.pre, R.cons]
def toksS : Bs → Nat → Nat → R (List Tk)
  | [], _, _ => .ok []
  | _ :: l, k + 1, p => toksS l k (p + 1)
  | b :: l, 0, p =>
    if blkI (n8 b) = true then toksS l 0 (p + 1)
    else if (opAt (b :: l)).isEmpty = false then (toksS l ((opAt (b :: l)).length - 1) (p + 1)).cons ⟨p, opAt (b :: l), [], []⟩
    else match wordS (b :: l) 0 p [] [] with
      | .ok (ps, tx, q) => (toksS l (q - (p + 1)) (p + 1)).cons ⟨p, [], finS ps tx, asgS (b :: l)⟩
      | .err q e => .err q e
/-- The word behind the name and the = of an assignment. -/
def valS (t : Tk) : Wd :=
  match t.word with
  | [] => []
  | f :: r => if (f.text.drop (t.name.length + 1)).isEmpty && !r.isEmpty then r else ⟨f.text.drop (t.name.length + 1), f.var, f.quo⟩ :: r
def redS (o : Bs) : Bool := o == [60] || o == [62] || o == [62, 62]
def smE : Sm := ⟨[], [], [], [], false⟩
def smNone (c : Sm) : Bool := c.asg.isEmpty && c.words.isEmpty
/-- A simple command. -/
def simS (en : Nat) : List Tk → Sm → R (Sm × List Tk)
  | [], c => if smNone c then .err en 30 else .ok (c, [])
  | [t], c =>
    if redS t.op then (if (if t.op == [60] then !c.inn.isEmpty else !c.out.isEmpty) then .err t.pos 7 else .err en 30)
    else if !t.word.isEmpty then
      (if !t.name.isEmpty && c.words.isEmpty then (if c.asg.length = 32 then .err t.pos 9 else simS en [] { c with asg := c.asg ++ [⟨t.name, valS t⟩] })
       else if c.words.length = 32 then .err t.pos 9 else simS en [] { c with words := c.words ++ [t.word] })
    else if smNone c then .err t.pos 30 else .ok (c, [t])
  | t :: u :: ts, c =>
    if redS t.op then (if (if t.op == [60] then !c.inn.isEmpty else !c.out.isEmpty) then .err t.pos 7
      else if u.word.isEmpty then .err u.pos 30
      else if t.op == [60] then simS en ts { c with inn := u.word } else simS en ts { c with out := u.word, app := c.app || t.op == [62, 62] })
    else if !t.word.isEmpty then
      (if !t.name.isEmpty && c.words.isEmpty then (if c.asg.length = 32 then .err t.pos 9 else simS en (u :: ts) { c with asg := c.asg ++ [⟨t.name, valS t⟩] })
       else if c.words.length = 32 then .err t.pos 9 else simS en (u :: ts) { c with words := c.words ++ [t.word] })
    else if smNone c then .err t.pos 30 else .ok (c, t :: u :: ts)
/-- A pipeline, of at most n stages more. -/
def pipS (en : Nat) : Nat → List Tk → List Sm → R (List Sm × List Tk)
  | 0, _, _ => .err 0 0
  | n + 1, ts, a => match simS en ts smE with
    | .err p e => .err p e
    | .ok (c, []) => .ok (a ++ [c], [])
    | .ok (c, t :: r) => if t.op == [124] then (if n = 0 then .err t.pos 9 else pipS en n r (a ++ [c])) else .ok (a ++ [c], t :: r)
/-- A line, of at most n parts more. -/
def linS (en : Nat) : Nat → List Tk → Int → List Pl → R Ln
  | 0, _, _, _ => .err 0 0
  | n + 1, ts, wh, a => match pipS en 8 ts [] with
    | .err p e => .err p e
    | .ok (q, []) => .ok ⟨a ++ [⟨wh, q⟩], false⟩
    | .ok (q, t :: r) =>
      if t.op == [59] then (if n = 0 then .err t.pos 9 else linS en n r 0 (a ++ [⟨wh, q⟩]))
      else if t.op == [38, 38] then (if n = 0 then .err t.pos 9 else linS en n r 1 (a ++ [⟨wh, q⟩]))
      else if t.op == [124, 124] then (if n = 0 then .err t.pos 9 else linS en n r 2 (a ++ [⟨wh, q⟩]))
      else if t.op == [38] then (match r with | [] => .ok ⟨a ++ [⟨wh, q⟩], true⟩ | u :: _ => .err u.pos 30)
      else .ok ⟨a ++ [⟨wh, q⟩], false⟩
/-- The offset of the first byte that may not occur. -/
def badS (l : Bs) : Nat := (l.takeWhile fun b => perI (n8 b)).length
def parS (l : Bs) : R Ln :=
  if 1024 < l.length then .err 0 5
  else if badS l < l.length then .err (badS l) 6
  else match toksS l 0 0 with
    | .err p e => .err p e
    | .ok [] => .ok ⟨[], false⟩
    | .ok (t :: ts) => linS l.length 16 (t :: ts) 0 []
end Go.Proofs.Ytiddchpkmcncdaa
