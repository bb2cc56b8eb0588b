/- Plain facts of layer 47: the small world. -/
import Derived.Test.YtmjkcanjfjfkfaaE1
namespace Go.Proofs.Ytmjkcanjfjfkfaa
set_option linter.unusedSimpArgs false
set_option linter.unusedVariables false
structure De where
  who : Nat
  reads : Nat
  writes : Nat
  spawn : Nat
  same : Bool
deriving DecidableEq
/-- A state: what names have. -/
abbrev S47 := Nm → Option Bs
def bitN (x i : Nat) : Bool := x / 2 ^ i % 2 == 1
def whoS (n : Nat) : Bs := [UInt8.ofNat (49 + (n - 1) % 3)]
def addN (l : List Nm) (n : Nm) : List Nm := if n ∈ l then l else l ++ [n]
structure RdS where
  value : Bs
  first : Bool
  all : Bool
  names : List Nm
def val47 (v x : Bs) : Bs := UInt8.ofNat (97 + (v.length + x.length) % 5) :: x.take 2
def rd1 (s : S47) (d : De) (st : RdS) (i : Nat) : RdS :=
  if bitN d.reads i = false ∨ st.all = false then st else
    { value := if d.same then st.value else val47 ((s (prtN (1 + (i : Nat)))).getD []) st.value
      first := false
      all := if st.first then ((s (prtN (1 + (i : Nat)))).getD []).length % 2 == 1 else st.all
      names := addN st.names (prtN (1 + (i : Nat))) }
def rd0 (k : Ky) : RdS := ⟨[118], true, true, if k.cls = 0 then [] else [prcN k.lin]⟩
def rdTo (s : S47) (k : Ky) (d : De) (m : Nat) : RdS := (List.range m).foldl (rd1 s d) (rd0 k)
def rdA (s : S47) (k : Ky) (d : De) : RdS := rdTo s k d 6
def wrTo (d : De) (r : RdS) (m : Nat) : List (Nm × Bs) := (List.range m).foldl (fun l (i : Nat) => if bitN d.writes i && (r.all || decide (i < 3)) then putM (prtN (1 + (i : Nat))) r.value l else l) []
def spw (d : De) : Bool := decide (1 ≤ d.spawn) && decide (d.spawn ≤ 3)
def wrs (s : S47) (k : Ky) (d : De) : List (Nm × Bs) := if spw d then putM (prcN (whoS d.spawn)) [112] (wrTo d (rdA s k d) 6) else wrTo d (rdA s k d) 6
def rds (s : S47) (k : Ky) (d : De) : List Nm := if spw d then addN (rdA s k d).names (prcN (whoS d.spawn)) else (rdA s k d).names
def rdC (s : S47) (n : Nm) : Ch := ⟨n, (s n).getD [], (s n).isNone⟩
def wrC (W : List (Nm × Bs)) (n : Nm) : Ch := ⟨n, (lookM n W).getD [], false⟩
def prf (s : S47) (k : Ky) (d : De) : Ac := ⟨k, (sortU cmpN (rds s k d)).map (rdC s), (sortU cmpN ((wrs s k d).map Prod.fst)).map (wrC (wrs s k d))⟩
def putS (s : S47) (W : List (Nm × Bs)) : S47 := fun n => match lookM n W with | some v => some v | none => s n
def nxtS (s : S47) (k : Ky) (d : De) : S47 := putS s (wrs s k d)
/-- A step of the world. -/
def stp (st : S47 × List Ac) (k : Ky) (d : De) : S47 × List Ac := (nxtS st.1 k d, st.2 ++ [prf st.1 k d])
def kyI (t i : Nat) : Ky := ⟨t, 0, (i : Int) + 1, []⟩
def kyP (t n : Nat) : Ky := ⟨t, 2, 0, whoS n⟩
def inF (ds : List De) (ins t : Nat) (st : S47 × List Ac) (i : Nat) : S47 × List Ac :=
  match ds[i]? with
  | none => st
  | some d => if d.who % 4 = 0 ∧ bitN ins i = false then stp st (kyI t i) d else st
/-- The first deed of a process in a row of places. -/
def fstD (ds : List De) (n : Nat) (p : Nat → Bool) : List Nat → Option De
  | [] => none
  | i :: l => match ds[i]? with
    | none => fstD ds n p l
    | some d => if d.who % 4 = n ∧ p n = true then some d else fstD ds n p l
def prF (ds : List De) (p : Nat → Bool) (t : Nat) (pl : List Nat) (st : S47 × List Ac) (n : Nat) : S47 × List Ac :=
  match fstD ds n p pl with
  | none => st
  | some d => stp st (kyP t n) d
def places (N t : Nat) : List Nat := (List.range (min (min N (4 * t + 4)) 20 - 4 * t)).map fun j => 4 * t + j
def thr (s : S47) (n : Nat) : Bool := (s (prcN (whoS n))).isSome
def tickF (ds : List De) (ins prs : Nat) (st : S47 × List Ac) (t : Nat) : S47 × List Ac :=
  [1, 2, 3].foldl (prF ds (fun n => thr ((places ds.length t).foldl (inF ds ins t) st).1 n && !bitN prs n) t (places ds.length t)) ((places ds.length t).foldl (inF ds ins t) st)
def s00 : S47 := fun _ => none
def runTo (ds : List De) (ins prs m : Nat) : S47 × List Ac := (List.range m).foldl (tickF ds ins prs) (s00, [])
def ticks (ds : List De) : Nat := (min ds.length 20 + 3) / 4
def runS (ds : List De) (ins prs : Nat) : List Ac := (runTo ds ins prs (ticks ds)).2
end Go.Proofs.Ytmjkcanjfjfkfaa
