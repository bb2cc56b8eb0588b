/-
  No cell of these rows narrows 'for every input' (looked for: loops, veiled, ifaces, maps, wideKeys, modest, calm, conditions, laid).
  DERIVED. THE GIVEN ROWS OF THIS SEAT. 6 by the template 'for every input the law returns true; each argument reads behind the call as it read before'; 0 by the template 'total and deterministic' (their statements: YtmjkcanjfjfkfaaTotals.lean).
  GIVEN WITH THE SEED: the statements are not yours to turn. If you find one false, say at which input.
  Laid BY PROGRAM, IN A SANDBOX (cutbox-rows.mjs): the forced cells as the released guide's own fill.sh prints them over the translation 1ef1561fb881a3be… (all of the seat's roots in one cut). By AI agents, Wed Nov 11 2026. No macro, syntax, notation, axiom, sorry.
-/
import Derived.Test.YtmjkcanjfjfkfaaChecked
import GoSem.Claim
import GoSem.ClaimJoined
import GoSem.ClaimMapViews
import Derived.JoinedTies
import Derived.KernelRfl
namespace Go.Proofs.Ytmjkcanjfjfkfaa
/- THE CELL 'sum', in the pinned program and in every row, IS THE sha256 OF THE DUMP (.gsa) THAT YtmjkcanjfjfkfaaProg.lean LOADS. Nothing in Lean hashes anything: it is a label: what it is worth is what the hold of that sum in a sandbox is worth. -/
noncomputable def Try.pinned : Pinned := { name := "ytmjkcanjfjfkfaa", sum := "1ef1561fb881a3be407e63329e1f9f92cd48b3c0b0edd248b3e43e95781612e8", checked := Try.checked }
namespace Rows
def none {H : Type} : Left H := { results := [], args := [] }

/-- 'replevinlaw47.DependChains': WHATEVER THE INPUT: true; the input reads as it did. -/
def dependChainsSpec : ChangeSpec := { name := "dependChains", fn := fun _ => fun
  | [d1, d2, d3] => { results := [.lit (.bool true)], args := [d1, d2, d3] }
  | _ => none }
def dependChainsRow : OpenClaim := { program := "ytmjkcanjfjfkfaa", sum := "1ef1561fb881a3be407e63329e1f9f92cd48b3c0b0edd248b3e43e95781612e8", func := "replevin/replevinlaw47.DependChains", spec := "dependChains", unfollowed := true, recurses := true, plainKeys := false, apart := false }
def DependChainsSaid : Prop := dependChainsRow.holds Try.pinned (OpenSpec.ofChange dependChainsSpec)

/-- ITS FALSE NEIGHBOUR: 'it returns false'. Refute it at one input. -/
def dependChainsWrong : ChangeSpec := { name := "dependChains", fn := fun _ => fun
  | [d1, d2, d3] => { results := [.lit (.bool false)], args := [d1, d2, d3] }
  | _ => none }
def DependChainsWrongFalsely : Prop := dependChainsRow.holds Try.pinned (OpenSpec.ofChange dependChainsWrong)

/-- 'replevinlaw47.DependWriters': WHATEVER THE INPUT: true; the input reads as it did. -/
def dependWritersSpec : ChangeSpec := { name := "dependWriters", fn := fun _ => fun
  | [d1, d2, d3] => { results := [.lit (.bool true)], args := [d1, d2, d3] }
  | _ => none }
def dependWritersRow : OpenClaim := { program := "ytmjkcanjfjfkfaa", sum := "1ef1561fb881a3be407e63329e1f9f92cd48b3c0b0edd248b3e43e95781612e8", func := "replevin/replevinlaw47.DependWriters", spec := "dependWriters", unfollowed := true, recurses := true, plainKeys := false, apart := false }
def DependWritersSaid : Prop := dependWritersRow.holds Try.pinned (OpenSpec.ofChange dependWritersSpec)

/-- ITS FALSE NEIGHBOUR: 'it returns false'. Refute it at one input. -/
def dependWritersWrong : ChangeSpec := { name := "dependWriters", fn := fun _ => fun
  | [d1, d2, d3] => { results := [.lit (.bool false)], args := [d1, d2, d3] }
  | _ => none }
def DependWritersWrongFalsely : Prop := dependWritersRow.holds Try.pinned (OpenSpec.ofChange dependWritersWrong)

/-- 'replevinlaw47.DependCauses': WHATEVER THE INPUT: true; the input reads as it did. -/
def dependCausesSpec : ChangeSpec := { name := "dependCauses", fn := fun _ => fun
  | [d1, d2] => { results := [.lit (.bool true)], args := [d1, d2] }
  | _ => none }
def dependCausesRow : OpenClaim := { program := "ytmjkcanjfjfkfaa", sum := "1ef1561fb881a3be407e63329e1f9f92cd48b3c0b0edd248b3e43e95781612e8", func := "replevin/replevinlaw47.DependCauses", spec := "dependCauses", unfollowed := true, recurses := true, plainKeys := false, apart := false }
def DependCausesSaid : Prop := dependCausesRow.holds Try.pinned (OpenSpec.ofChange dependCausesSpec)

/-- ITS FALSE NEIGHBOUR: 'it returns false'. Refute it at one input. -/
def dependCausesWrong : ChangeSpec := { name := "dependCauses", fn := fun _ => fun
  | [d1, d2] => { results := [.lit (.bool false)], args := [d1, d2] }
  | _ => none }
def DependCausesWrongFalsely : Prop := dependCausesRow.holds Try.pinned (OpenSpec.ofChange dependCausesWrong)

/-- 'replevinlaw47.DependLinks': WHATEVER THE INPUT: true; the input reads as it did. -/
def dependLinksSpec : ChangeSpec := { name := "dependLinks", fn := fun _ => fun
  | [d] => { results := [.lit (.bool true)], args := [d] }
  | _ => none }
def dependLinksRow : OpenClaim := { program := "ytmjkcanjfjfkfaa", sum := "1ef1561fb881a3be407e63329e1f9f92cd48b3c0b0edd248b3e43e95781612e8", func := "replevin/replevinlaw47.DependLinks", spec := "dependLinks", unfollowed := true, recurses := true, plainKeys := false, apart := false }
def DependLinksSaid : Prop := dependLinksRow.holds Try.pinned (OpenSpec.ofChange dependLinksSpec)

/-- ITS FALSE NEIGHBOUR: 'it returns false'. Refute it at one input. -/
def dependLinksWrong : ChangeSpec := { name := "dependLinks", fn := fun _ => fun
  | [d] => { results := [.lit (.bool false)], args := [d] }
  | _ => none }
def DependLinksWrongFalsely : Prop := dependLinksRow.holds Try.pinned (OpenSpec.ofChange dependLinksWrong)

/-- 'replevinlaw47.DependReach': WHATEVER THE INPUT: true; the input reads as it did. -/
def dependReachSpec : ChangeSpec := { name := "dependReach", fn := fun _ => fun
  | [d1, d2] => { results := [.lit (.bool true)], args := [d1, d2] }
  | _ => none }
def dependReachRow : OpenClaim := { program := "ytmjkcanjfjfkfaa", sum := "1ef1561fb881a3be407e63329e1f9f92cd48b3c0b0edd248b3e43e95781612e8", func := "replevin/replevinlaw47.DependReach", spec := "dependReach", unfollowed := true, recurses := true, plainKeys := false, apart := false }
def DependReachSaid : Prop := dependReachRow.holds Try.pinned (OpenSpec.ofChange dependReachSpec)

/-- ITS FALSE NEIGHBOUR: 'it returns false'. Refute it at one input. -/
def dependReachWrong : ChangeSpec := { name := "dependReach", fn := fun _ => fun
  | [d1, d2] => { results := [.lit (.bool false)], args := [d1, d2] }
  | _ => none }
def DependReachWrongFalsely : Prop := dependReachRow.holds Try.pinned (OpenSpec.ofChange dependReachWrong)

/-- 'replevinlaw47.DependNil': WHATEVER THE INPUT: true; the input reads as it did. -/
def dependNilSpec : ChangeSpec := { name := "dependNil", fn := fun _ => fun
  | [d1, d2, d3] => { results := [.lit (.bool true)], args := [d1, d2, d3] }
  | _ => none }
def dependNilRow : OpenClaim := { program := "ytmjkcanjfjfkfaa", sum := "1ef1561fb881a3be407e63329e1f9f92cd48b3c0b0edd248b3e43e95781612e8", func := "replevin/replevinlaw47.DependNil", spec := "dependNil", unfollowed := true, recurses := true, plainKeys := false, apart := false }
def DependNilSaid : Prop := dependNilRow.holds Try.pinned (OpenSpec.ofChange dependNilSpec)

/-- ITS FALSE NEIGHBOUR: 'it returns false'. Refute it at one input. -/
def dependNilWrong : ChangeSpec := { name := "dependNil", fn := fun _ => fun
  | [d1, d2, d3] => { results := [.lit (.bool false)], args := [d1, d2, d3] }
  | _ => none }
def DependNilWrongFalsely : Prop := dependNilRow.holds Try.pinned (OpenSpec.ofChange dependNilWrong)

/- THE SECOND FORM. 'bulk': how many values and letters a reading holds, each counted each time it is reached (what is shared counts as often as it is met; a slice's spare places count too). A statement '..UptoSaid' is the law's where the arguments, and the package variables that the reading takes, are together of bulk at most 1048576: NARROWER than '..Said'. Prove '..Said' where nothing that the law and all that it calls make is longer than what came in: it says more and counts as full. Else prove '..UptoSaid'. A law counts once. -/
mutual
def uptoBulk {H : Type} : DataW H → Nat
  | .lit (.string bytes) => bytes.length + 1
  | .lit _ => 1
  | .nil => 1
  | .ptr d => uptoBulk d + 1
  | .slice elems spare => uptoBulkAll elems + uptoBulkAll spare + 1
  | .agg parts => uptoBulkAll parts + 1
  | .iface _ d => uptoBulk d + 1
  | .map entries => uptoBulkEntries entries + 1
  | .held _ => 1
def uptoBulkAll {H : Type} : List (DataW H) → Nat
  | [] => 0
  | d :: r => uptoBulk d + uptoBulkAll r
def uptoBulkEntries {H : Type} : List (Lit × DataW H) → Nat
  | [] => 0
  | x :: r => uptoBulkEntry x + uptoBulkEntries r
def uptoBulkEntry {H : Type} : Lit × DataW H → Nat
  | (.string bytes, d) => bytes.length + uptoBulk d + 1
  | (_, d) => uptoBulk d + 1
 end
def uptoSmall : (H : Type) → List (DataW H) → Bool := fun _ ds => decide (uptoBulkAll ds ≤ 1048576)
def OpenSpec.upto (s : _root_.Go.ChangeSpec) : _root_.Go.OpenSpec := { _root_.Go.OpenSpec.ofChange s with cond := some uptoSmall }

/-- 'replevinlaw47.DependChains', WHERE WHAT IT READS IS OF BULK AT MOST 1048576: true; the input reads as it did. -/
def dependChainsUptoRow : OpenClaim := { program := "ytmjkcanjfjfkfaa", sum := "1ef1561fb881a3be407e63329e1f9f92cd48b3c0b0edd248b3e43e95781612e8", func := "replevin/replevinlaw47.DependChains", spec := "dependChains", unfollowed := true, recurses := true, plainKeys := false, apart := false, narrowed := true }
def DependChainsUptoSaid : Prop := dependChainsUptoRow.holds Try.pinned (OpenSpec.upto dependChainsSpec)

/-- 'replevinlaw47.DependWriters', WHERE WHAT IT READS IS OF BULK AT MOST 1048576: true; the input reads as it did. -/
def dependWritersUptoRow : OpenClaim := { program := "ytmjkcanjfjfkfaa", sum := "1ef1561fb881a3be407e63329e1f9f92cd48b3c0b0edd248b3e43e95781612e8", func := "replevin/replevinlaw47.DependWriters", spec := "dependWriters", unfollowed := true, recurses := true, plainKeys := false, apart := false, narrowed := true }
def DependWritersUptoSaid : Prop := dependWritersUptoRow.holds Try.pinned (OpenSpec.upto dependWritersSpec)

/-- 'replevinlaw47.DependCauses', WHERE WHAT IT READS IS OF BULK AT MOST 1048576: true; the input reads as it did. -/
def dependCausesUptoRow : OpenClaim := { program := "ytmjkcanjfjfkfaa", sum := "1ef1561fb881a3be407e63329e1f9f92cd48b3c0b0edd248b3e43e95781612e8", func := "replevin/replevinlaw47.DependCauses", spec := "dependCauses", unfollowed := true, recurses := true, plainKeys := false, apart := false, narrowed := true }
def DependCausesUptoSaid : Prop := dependCausesUptoRow.holds Try.pinned (OpenSpec.upto dependCausesSpec)

/-- 'replevinlaw47.DependLinks', WHERE WHAT IT READS IS OF BULK AT MOST 1048576: true; the input reads as it did. -/
def dependLinksUptoRow : OpenClaim := { program := "ytmjkcanjfjfkfaa", sum := "1ef1561fb881a3be407e63329e1f9f92cd48b3c0b0edd248b3e43e95781612e8", func := "replevin/replevinlaw47.DependLinks", spec := "dependLinks", unfollowed := true, recurses := true, plainKeys := false, apart := false, narrowed := true }
def DependLinksUptoSaid : Prop := dependLinksUptoRow.holds Try.pinned (OpenSpec.upto dependLinksSpec)

/-- 'replevinlaw47.DependReach', WHERE WHAT IT READS IS OF BULK AT MOST 1048576: true; the input reads as it did. -/
def dependReachUptoRow : OpenClaim := { program := "ytmjkcanjfjfkfaa", sum := "1ef1561fb881a3be407e63329e1f9f92cd48b3c0b0edd248b3e43e95781612e8", func := "replevin/replevinlaw47.DependReach", spec := "dependReach", unfollowed := true, recurses := true, plainKeys := false, apart := false, narrowed := true }
def DependReachUptoSaid : Prop := dependReachUptoRow.holds Try.pinned (OpenSpec.upto dependReachSpec)

/-- 'replevinlaw47.DependNil', WHERE WHAT IT READS IS OF BULK AT MOST 1048576: true; the input reads as it did. -/
def dependNilUptoRow : OpenClaim := { program := "ytmjkcanjfjfkfaa", sum := "1ef1561fb881a3be407e63329e1f9f92cd48b3c0b0edd248b3e43e95781612e8", func := "replevin/replevinlaw47.DependNil", spec := "dependNil", unfollowed := true, recurses := true, plainKeys := false, apart := false, narrowed := true }
def DependNilUptoSaid : Prop := dependNilUptoRow.holds Try.pinned (OpenSpec.upto dependNilSpec)

end Rows
end Go.Proofs.Ytmjkcanjfjfkfaa
