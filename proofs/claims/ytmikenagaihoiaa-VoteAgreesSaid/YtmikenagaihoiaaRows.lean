/-
  No cell of these rows narrows 'for every input' (looked for: loops, veiled, ifaces, maps, wideKeys, modest, calm, conditions, laid).
  DERIVED. THE GIVEN ROWS OF THIS SEAT. 3 by the template 'for every input the law returns true; each argument reads behind the call as it read before'; 0 by the template 'total and deterministic' (their statements: YtmikenagaihoiaaTotals.lean).
  GIVEN WITH THE SEED: the statements are not yours to turn. If you find one false, say at which input.
  Laid BY PROGRAM, IN A SANDBOX (cutbox-rows.mjs): the forced cells as the released guide's own fill.sh prints them over the translation 3dc0d91c6b0a2a9e… (all of the seat's roots in one cut). By AI agents, Wed Nov 11 2026. No macro, syntax, notation, axiom, sorry.
-/
import Derived.Test.YtmikenagaihoiaaChecked
import GoSem.Claim
import GoSem.ClaimJoined
import GoSem.ClaimMapViews
import Derived.JoinedTies
import Derived.KernelRfl
namespace Go.Proofs.Ytmikenagaihoiaa
/- THE CELL 'sum', in the pinned program and in every row, IS THE sha256 OF THE DUMP (.gsa) THAT YtmikenagaihoiaaProg.lean LOADS. Nothing in Lean hashes anything: it is a label: what it is worth is what the hold of that sum in a sandbox is worth. -/
noncomputable def Try.pinned : Pinned := { name := "ytmikenagaihoiaa", sum := "3dc0d91c6b0a2a9ea90650ff6b62576c884372ea89083387e95c69c83a4840c6", checked := Try.checked }
namespace Rows
def none {H : Type} : Left H := { results := [], args := [] }

/-- 'arboretumlaw16.VoteOrder': WHATEVER THE INPUT: true; the input reads as it did. -/
def voteOrderSpec : ChangeSpec := { name := "voteOrder", fn := fun _ => fun
  | [d1, d2, d3] => { results := [.lit (.bool true)], args := [d1, d2, d3] }
  | _ => none }
def voteOrderRow : OpenClaim := { program := "ytmikenagaihoiaa", sum := "3dc0d91c6b0a2a9ea90650ff6b62576c884372ea89083387e95c69c83a4840c6", func := "arboretum/arboretumlaw16.VoteOrder", spec := "voteOrder", unfollowed := true, recurses := true, apart := false }
def VoteOrderSaid : Prop := voteOrderRow.holds Try.pinned (OpenSpec.ofChange voteOrderSpec)

/-- ITS FALSE NEIGHBOUR: 'it returns false'. Refute it at one input. -/
def voteOrderWrong : ChangeSpec := { name := "voteOrder", fn := fun _ => fun
  | [d1, d2, d3] => { results := [.lit (.bool false)], args := [d1, d2, d3] }
  | _ => none }
def VoteOrderWrongFalsely : Prop := voteOrderRow.holds Try.pinned (OpenSpec.ofChange voteOrderWrong)

/-- 'arboretumlaw16.VoteJoins': WHATEVER THE INPUT: true; the input reads as it did. -/
def voteJoinsSpec : ChangeSpec := { name := "voteJoins", fn := fun _ => fun
  | [d1, d2, d3, d4, d5] => { results := [.lit (.bool true)], args := [d1, d2, d3, d4, d5] }
  | _ => none }
def voteJoinsRow : OpenClaim := { program := "ytmikenagaihoiaa", sum := "3dc0d91c6b0a2a9ea90650ff6b62576c884372ea89083387e95c69c83a4840c6", func := "arboretum/arboretumlaw16.VoteJoins", spec := "voteJoins", unfollowed := true, recurses := true, apart := false }
def VoteJoinsSaid : Prop := voteJoinsRow.holds Try.pinned (OpenSpec.ofChange voteJoinsSpec)

/-- ITS FALSE NEIGHBOUR: 'it returns false'. Refute it at one input. -/
def voteJoinsWrong : ChangeSpec := { name := "voteJoins", fn := fun _ => fun
  | [d1, d2, d3, d4, d5] => { results := [.lit (.bool false)], args := [d1, d2, d3, d4, d5] }
  | _ => none }
def VoteJoinsWrongFalsely : Prop := voteJoinsRow.holds Try.pinned (OpenSpec.ofChange voteJoinsWrong)

/-- 'arboretumlaw16.VoteAgrees': WHATEVER THE INPUT: true; the input reads as it did. -/
def voteAgreesSpec : ChangeSpec := { name := "voteAgrees", fn := fun _ => fun
  | [d1, d2] => { results := [.lit (.bool true)], args := [d1, d2] }
  | _ => none }
def voteAgreesRow : OpenClaim := { program := "ytmikenagaihoiaa", sum := "3dc0d91c6b0a2a9ea90650ff6b62576c884372ea89083387e95c69c83a4840c6", func := "arboretum/arboretumlaw16.VoteAgrees", spec := "voteAgrees", unfollowed := true, recurses := true, apart := false }
def VoteAgreesSaid : Prop := voteAgreesRow.holds Try.pinned (OpenSpec.ofChange voteAgreesSpec)

/-- ITS FALSE NEIGHBOUR: 'it returns false'. Refute it at one input. -/
def voteAgreesWrong : ChangeSpec := { name := "voteAgrees", fn := fun _ => fun
  | [d1, d2] => { results := [.lit (.bool false)], args := [d1, d2] }
  | _ => none }
def VoteAgreesWrongFalsely : Prop := voteAgreesRow.holds Try.pinned (OpenSpec.ofChange voteAgreesWrong)

/- THE SECOND FORM. 'bulk': how many values and letters a reading holds, each counted each time it is reached (what is shared counts as often as it is met; a slice's spare places count too). A statement '..UptoSaid' is the law's where the arguments, and the package variables that the reading takes, are together of bulk at most 1048576: NARROWER than '..Said'. Prove '..Said' where nothing that the law and all that it calls make is longer than what came in: it says more and counts as full. Else prove '..UptoSaid'. A law counts once. -/
mutual
def uptoBulk {H : Type} : DataW H → Nat
  | .lit (.string bytes) => bytes.length + 1
  | .lit _ => 1
  | .nil => 1
  | .ptr d => uptoBulk d + 1
  | .slice elems spare => uptoBulkAll elems + uptoBulkAll spare + 1
  | .agg parts => uptoBulkAll parts + 1
  | .iface _ d => uptoBulk d + 1
  | .map entries => uptoBulkEntries entries + 1
  | .held _ => 1
def uptoBulkAll {H : Type} : List (DataW H) → Nat
  | [] => 0
  | d :: r => uptoBulk d + uptoBulkAll r
def uptoBulkEntries {H : Type} : List (Lit × DataW H) → Nat
  | [] => 0
  | x :: r => uptoBulkEntry x + uptoBulkEntries r
def uptoBulkEntry {H : Type} : Lit × DataW H → Nat
  | (.string bytes, d) => bytes.length + uptoBulk d + 1
  | (_, d) => uptoBulk d + 1
 end
def uptoSmall : (H : Type) → List (DataW H) → Bool := fun _ ds => decide (uptoBulkAll ds ≤ 1048576)
def OpenSpec.upto (s : _root_.Go.ChangeSpec) : _root_.Go.OpenSpec := { _root_.Go.OpenSpec.ofChange s with cond := some uptoSmall }

/-- 'arboretumlaw16.VoteOrder', WHERE WHAT IT READS IS OF BULK AT MOST 1048576: true; the input reads as it did. -/
def voteOrderUptoRow : OpenClaim := { program := "ytmikenagaihoiaa", sum := "3dc0d91c6b0a2a9ea90650ff6b62576c884372ea89083387e95c69c83a4840c6", func := "arboretum/arboretumlaw16.VoteOrder", spec := "voteOrder", unfollowed := true, recurses := true, apart := false, narrowed := true }
def VoteOrderUptoSaid : Prop := voteOrderUptoRow.holds Try.pinned (OpenSpec.upto voteOrderSpec)

/-- 'arboretumlaw16.VoteJoins', WHERE WHAT IT READS IS OF BULK AT MOST 1048576: true; the input reads as it did. -/
def voteJoinsUptoRow : OpenClaim := { program := "ytmikenagaihoiaa", sum := "3dc0d91c6b0a2a9ea90650ff6b62576c884372ea89083387e95c69c83a4840c6", func := "arboretum/arboretumlaw16.VoteJoins", spec := "voteJoins", unfollowed := true, recurses := true, apart := false, narrowed := true }
def VoteJoinsUptoSaid : Prop := voteJoinsUptoRow.holds Try.pinned (OpenSpec.upto voteJoinsSpec)

/-- 'arboretumlaw16.VoteAgrees', WHERE WHAT IT READS IS OF BULK AT MOST 1048576: true; the input reads as it did. -/
def voteAgreesUptoRow : OpenClaim := { program := "ytmikenagaihoiaa", sum := "3dc0d91c6b0a2a9ea90650ff6b62576c884372ea89083387e95c69c83a4840c6", func := "arboretum/arboretumlaw16.VoteAgrees", spec := "voteAgrees", unfollowed := true, recurses := true, apart := false, narrowed := true }
def VoteAgreesUptoSaid : Prop := voteAgreesUptoRow.holds Try.pinned (OpenSpec.upto voteAgreesSpec)

end Rows
end Go.Proofs.Ytmikenagaihoiaa
