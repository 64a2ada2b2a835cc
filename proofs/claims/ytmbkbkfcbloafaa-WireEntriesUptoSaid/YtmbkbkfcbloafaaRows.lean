/-
  NARROWER THAN 'FOR EVERY INPUT', by the rows' own cells (each row's printed sentence says how): WireEntries: loops · WireReplies: loops · WireRequests: loops.
  DERIVED. THE GIVEN ROWS OF THIS SEAT. 4 by the template 'for every input the law returns true; each argument reads behind the call as it read before'; 0 by the template 'total and deterministic' (their statements: YtmbkbkfcbloafaaTotals.lean).
  GIVEN WITH THE SEED: the statements are not yours to turn. If you find one false, say at which input.
  Laid BY PROGRAM, IN A SANDBOX (cutbox-rows.mjs): the forced cells as the released guide's own fill.sh prints them over the translation 65cf189063e68959… (all of the seat's roots in one cut). By AI agents, Wed Nov 11 2026. No macro, syntax, notation, axiom, sorry.
-/
import Derived.Test.YtmbkbkfcbloafaaChecked
import GoSem.Claim
import GoSem.ClaimJoined
import GoSem.ClaimMapViews
import Derived.JoinedTies
import Derived.KernelRfl
namespace Go.Proofs.Ytmbkbkfcbloafaa
/- THE CELL 'sum', in the pinned program and in every row, IS THE sha256 OF THE DUMP (.gsa) THAT YtmbkbkfcbloafaaProg.lean LOADS. Nothing in Lean hashes anything: it is a label: what it is worth is what the hold of that sum in a sandbox is worth. -/
noncomputable def Try.pinned : Pinned := { name := "ytmbkbkfcbloafaa", sum := "65cf189063e689592958ce6aaba7d4a96f726d6e466ea044fe930cdbec087799", checked := Try.checked }
namespace Rows
def none {H : Type} : Left H := { results := [], args := [] }

/-- 'arboretumlaw02.WireSmall': WHATEVER THE INPUT: true; the input reads as it did. -/
def wireSmallSpec : ChangeSpec := { name := "wireSmall", fn := fun _ => fun
  | [d1, d2, d3] => { results := [.lit (.bool true)], args := [d1, d2, d3] }
  | _ => none }
def wireSmallRow : OpenClaim := { program := "ytmbkbkfcbloafaa", sum := "65cf189063e689592958ce6aaba7d4a96f726d6e466ea044fe930cdbec087799", func := "arboretum/arboretumlaw02.WireSmall", spec := "wireSmall", unfollowed := true, recurses := true, apart := false }
def WireSmallSaid : Prop := wireSmallRow.holds Try.pinned (OpenSpec.ofChange wireSmallSpec)

/-- ITS FALSE NEIGHBOUR: 'it returns false'. Refute it at one input. -/
def wireSmallWrong : ChangeSpec := { name := "wireSmall", fn := fun _ => fun
  | [d1, d2, d3] => { results := [.lit (.bool false)], args := [d1, d2, d3] }
  | _ => none }
def WireSmallWrongFalsely : Prop := wireSmallRow.holds Try.pinned (OpenSpec.ofChange wireSmallWrong)

/-- 'arboretumlaw02.WireEntries': WHATEVER THE INPUT: true; the input reads as it did. -/
def wireEntriesSpec : ChangeSpec := { name := "wireEntries", fn := fun _ => fun
  | [d] => { results := [.lit (.bool true)], args := [d] }
  | _ => none }
def wireEntriesRow : OpenClaim := { program := "ytmbkbkfcbloafaa", sum := "65cf189063e689592958ce6aaba7d4a96f726d6e466ea044fe930cdbec087799", func := "arboretum/arboretumlaw02.WireEntries", spec := "wireEntries", unfollowed := true, recurses := true, loops := true, apart := false }
def WireEntriesSaid : Prop := wireEntriesRow.holds Try.pinned (OpenSpec.ofChange wireEntriesSpec)

/-- ITS FALSE NEIGHBOUR: 'it returns false'. Refute it at one input. -/
def wireEntriesWrong : ChangeSpec := { name := "wireEntries", fn := fun _ => fun
  | [d] => { results := [.lit (.bool false)], args := [d] }
  | _ => none }
def WireEntriesWrongFalsely : Prop := wireEntriesRow.holds Try.pinned (OpenSpec.ofChange wireEntriesWrong)

/-- 'arboretumlaw02.WireReplies': WHATEVER THE INPUT: true; the input reads as it did. -/
def wireRepliesSpec : ChangeSpec := { name := "wireReplies", fn := fun _ => fun
  | [d] => { results := [.lit (.bool true)], args := [d] }
  | _ => none }
def wireRepliesRow : OpenClaim := { program := "ytmbkbkfcbloafaa", sum := "65cf189063e689592958ce6aaba7d4a96f726d6e466ea044fe930cdbec087799", func := "arboretum/arboretumlaw02.WireReplies", spec := "wireReplies", unfollowed := true, recurses := true, loops := true, apart := false }
def WireRepliesSaid : Prop := wireRepliesRow.holds Try.pinned (OpenSpec.ofChange wireRepliesSpec)

/-- ITS FALSE NEIGHBOUR: 'it returns false'. Refute it at one input. -/
def wireRepliesWrong : ChangeSpec := { name := "wireReplies", fn := fun _ => fun
  | [d] => { results := [.lit (.bool false)], args := [d] }
  | _ => none }
def WireRepliesWrongFalsely : Prop := wireRepliesRow.holds Try.pinned (OpenSpec.ofChange wireRepliesWrong)

/-- 'arboretumlaw02.WireRequests': WHATEVER THE INPUT: true; the input reads as it did. -/
def wireRequestsSpec : ChangeSpec := { name := "wireRequests", fn := fun _ => fun
  | [d] => { results := [.lit (.bool true)], args := [d] }
  | _ => none }
def wireRequestsRow : OpenClaim := { program := "ytmbkbkfcbloafaa", sum := "65cf189063e689592958ce6aaba7d4a96f726d6e466ea044fe930cdbec087799", func := "arboretum/arboretumlaw02.WireRequests", spec := "wireRequests", unfollowed := true, recurses := true, loops := true, apart := false }
def WireRequestsSaid : Prop := wireRequestsRow.holds Try.pinned (OpenSpec.ofChange wireRequestsSpec)

/-- ITS FALSE NEIGHBOUR: 'it returns false'. Refute it at one input. -/
def wireRequestsWrong : ChangeSpec := { name := "wireRequests", fn := fun _ => fun
  | [d] => { results := [.lit (.bool false)], args := [d] }
  | _ => none }
def WireRequestsWrongFalsely : Prop := wireRequestsRow.holds Try.pinned (OpenSpec.ofChange wireRequestsWrong)

/- THE SECOND FORM. 'bulk': how many values and letters a reading holds, each counted each time it is reached (what is shared counts as often as it is met; a slice's spare places count too). A statement '..UptoSaid' is the law's where the arguments, and the package variables that the reading takes, are together of bulk at most 1048576: NARROWER than '..Said'. Prove '..Said' where nothing that the law and all that it calls make is longer than what came in: it says more and counts as full. Else prove '..UptoSaid'. A law counts once. -/
mutual
def uptoBulk {H : Type} : DataW H → Nat
  | .lit (.string bytes) => bytes.length + 1
  | .lit _ => 1
  | .nil => 1
  | .ptr d => uptoBulk d + 1
  | .slice elems spare => uptoBulkAll elems + uptoBulkAll spare + 1
  | .agg parts => uptoBulkAll parts + 1
  | .iface _ d => uptoBulk d + 1
  | .map entries => uptoBulkEntries entries + 1
  | .held _ => 1
def uptoBulkAll {H : Type} : List (DataW H) → Nat
  | [] => 0
  | d :: r => uptoBulk d + uptoBulkAll r
def uptoBulkEntries {H : Type} : List (Lit × DataW H) → Nat
  | [] => 0
  | x :: r => uptoBulkEntry x + uptoBulkEntries r
def uptoBulkEntry {H : Type} : Lit × DataW H → Nat
  | (.string bytes, d) => bytes.length + uptoBulk d + 1
  | (_, d) => uptoBulk d + 1
 end
def uptoSmall : (H : Type) → List (DataW H) → Bool := fun _ ds => decide (uptoBulkAll ds ≤ 1048576)
def OpenSpec.upto (s : _root_.Go.ChangeSpec) : _root_.Go.OpenSpec := { _root_.Go.OpenSpec.ofChange s with cond := some uptoSmall }

/-- 'arboretumlaw02.WireSmall', WHERE WHAT IT READS IS OF BULK AT MOST 1048576: true; the input reads as it did. -/
def wireSmallUptoRow : OpenClaim := { program := "ytmbkbkfcbloafaa", sum := "65cf189063e689592958ce6aaba7d4a96f726d6e466ea044fe930cdbec087799", func := "arboretum/arboretumlaw02.WireSmall", spec := "wireSmall", unfollowed := true, recurses := true, apart := false, narrowed := true }
def WireSmallUptoSaid : Prop := wireSmallUptoRow.holds Try.pinned (OpenSpec.upto wireSmallSpec)

/-- 'arboretumlaw02.WireEntries', WHERE WHAT IT READS IS OF BULK AT MOST 1048576: true; the input reads as it did. -/
def wireEntriesUptoRow : OpenClaim := { program := "ytmbkbkfcbloafaa", sum := "65cf189063e689592958ce6aaba7d4a96f726d6e466ea044fe930cdbec087799", func := "arboretum/arboretumlaw02.WireEntries", spec := "wireEntries", unfollowed := true, recurses := true, loops := true, apart := false, narrowed := true }
def WireEntriesUptoSaid : Prop := wireEntriesUptoRow.holds Try.pinned (OpenSpec.upto wireEntriesSpec)

/-- 'arboretumlaw02.WireReplies', WHERE WHAT IT READS IS OF BULK AT MOST 1048576: true; the input reads as it did. -/
def wireRepliesUptoRow : OpenClaim := { program := "ytmbkbkfcbloafaa", sum := "65cf189063e689592958ce6aaba7d4a96f726d6e466ea044fe930cdbec087799", func := "arboretum/arboretumlaw02.WireReplies", spec := "wireReplies", unfollowed := true, recurses := true, loops := true, apart := false, narrowed := true }
def WireRepliesUptoSaid : Prop := wireRepliesUptoRow.holds Try.pinned (OpenSpec.upto wireRepliesSpec)

/-- 'arboretumlaw02.WireRequests', WHERE WHAT IT READS IS OF BULK AT MOST 1048576: true; the input reads as it did. -/
def wireRequestsUptoRow : OpenClaim := { program := "ytmbkbkfcbloafaa", sum := "65cf189063e689592958ce6aaba7d4a96f726d6e466ea044fe930cdbec087799", func := "arboretum/arboretumlaw02.WireRequests", spec := "wireRequests", unfollowed := true, recurses := true, loops := true, apart := false, narrowed := true }
def WireRequestsUptoSaid : Prop := wireRequestsUptoRow.holds Try.pinned (OpenSpec.upto wireRequestsSpec)

end Rows
end Go.Proofs.Ytmbkbkfcbloafaa
