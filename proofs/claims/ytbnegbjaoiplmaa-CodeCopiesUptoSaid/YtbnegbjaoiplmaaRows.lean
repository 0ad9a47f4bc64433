/-
  No cell of these rows narrows 'for every input' (looked for: loops, veiled, ifaces, maps, wideKeys, modest, calm, conditions, laid).
  DERIVED. THE GIVEN ROWS OF THIS SEAT. 3 by the template 'for every input the law returns true; each argument reads behind the call as it read before'; 0 by the template 'total and deterministic' (their statements: YtbnegbjaoiplmaaTotals.lean).
  GIVEN WITH THE SEED: the statements are not yours to turn. If you find one false, say at which input.
  Laid BY PROGRAM, IN A SANDBOX (cutbox-rows.mjs): the forced cells as the released guide's own fill.sh prints them over the translation 6fa467753cc2537e… (all of the seat's roots in one cut). By AI agents, Wed Nov 11 2026. No macro, syntax, notation, axiom, sorry.
-/
import Derived.Test.YtbnegbjaoiplmaaChecked
import GoSem.Claim
import GoSem.ClaimJoined
import GoSem.ClaimMapViews
import Derived.JoinedTies
import Derived.KernelRfl
namespace Go.Proofs.Ytbnegbjaoiplmaa
/- THE CELL 'sum', in the pinned program and in every row, IS THE sha256 OF THE DUMP (.gsa) THAT YtbnegbjaoiplmaaProg.lean LOADS. Nothing in Lean hashes anything: it is a label: what it is worth is what the hold of that sum in a sandbox is worth. -/
noncomputable def Try.pinned : Pinned := { name := "ytbnegbjaoiplmaa", sum := "6fa467753cc2537e64231d29f31bc042ad58ec28ee7d05769c80084f2612778b", checked := Try.checked }
namespace Rows
def none {H : Type} : Left H := { results := [], args := [] }

/-- 'teasellaw06.CodeNeeds': WHATEVER THE INPUT: true; the input reads as it did. -/
def codeNeedsSpec : ChangeSpec := { name := "codeNeeds", fn := fun _ => fun
  | [d1, d2] => { results := [.lit (.bool true)], args := [d1, d2] }
  | _ => none }
def codeNeedsRow : OpenClaim := { program := "ytbnegbjaoiplmaa", sum := "6fa467753cc2537e64231d29f31bc042ad58ec28ee7d05769c80084f2612778b", func := "teasel/teasellaw06.CodeNeeds", spec := "codeNeeds", unfollowed := true, recurses := true, plainKeys := false, apart := false }
def CodeNeedsSaid : Prop := codeNeedsRow.holds Try.pinned (OpenSpec.ofChange codeNeedsSpec)

/-- ITS FALSE NEIGHBOUR: 'it returns false'. Refute it at one input. -/
def codeNeedsWrong : ChangeSpec := { name := "codeNeeds", fn := fun _ => fun
  | [d1, d2] => { results := [.lit (.bool false)], args := [d1, d2] }
  | _ => none }
def CodeNeedsWrongFalsely : Prop := codeNeedsRow.holds Try.pinned (OpenSpec.ofChange codeNeedsWrong)

/-- 'teasellaw06.CodeCopies': WHATEVER THE INPUT: true; the input reads as it did. -/
def codeCopiesSpec : ChangeSpec := { name := "codeCopies", fn := fun _ => fun
  | [d] => { results := [.lit (.bool true)], args := [d] }
  | _ => none }
def codeCopiesRow : OpenClaim := { program := "ytbnegbjaoiplmaa", sum := "6fa467753cc2537e64231d29f31bc042ad58ec28ee7d05769c80084f2612778b", func := "teasel/teasellaw06.CodeCopies", spec := "codeCopies", unfollowed := true, recurses := true, plainKeys := false, apart := false }
def CodeCopiesSaid : Prop := codeCopiesRow.holds Try.pinned (OpenSpec.ofChange codeCopiesSpec)

/-- ITS FALSE NEIGHBOUR: 'it returns false'. Refute it at one input. -/
def codeCopiesWrong : ChangeSpec := { name := "codeCopies", fn := fun _ => fun
  | [d] => { results := [.lit (.bool false)], args := [d] }
  | _ => none }
def CodeCopiesWrongFalsely : Prop := codeCopiesRow.holds Try.pinned (OpenSpec.ofChange codeCopiesWrong)

/-- 'teasellaw12.DeadKeeps': WHATEVER THE INPUT: true; the input reads as it did. -/
def deadKeepsSpec : ChangeSpec := { name := "deadKeeps", fn := fun _ => fun
  | [d1, d2, d3] => { results := [.lit (.bool true)], args := [d1, d2, d3] }
  | _ => none }
def deadKeepsRow : OpenClaim := { program := "ytbnegbjaoiplmaa", sum := "6fa467753cc2537e64231d29f31bc042ad58ec28ee7d05769c80084f2612778b", func := "teasel/teasellaw12.DeadKeeps", spec := "deadKeeps", unfollowed := true, recurses := true, plainKeys := false, apart := false }
def DeadKeepsSaid : Prop := deadKeepsRow.holds Try.pinned (OpenSpec.ofChange deadKeepsSpec)

/-- ITS FALSE NEIGHBOUR: 'it returns false'. Refute it at one input. -/
def deadKeepsWrong : ChangeSpec := { name := "deadKeeps", fn := fun _ => fun
  | [d1, d2, d3] => { results := [.lit (.bool false)], args := [d1, d2, d3] }
  | _ => none }
def DeadKeepsWrongFalsely : Prop := deadKeepsRow.holds Try.pinned (OpenSpec.ofChange deadKeepsWrong)

/- THE SECOND FORM. 'bulk': how many values and letters a reading holds, each counted each time it is reached (what is shared counts as often as it is met; a slice's spare places count too). A statement '..UptoSaid' is the law's where the arguments, and the package variables that the reading takes, are together of bulk at most 1048576: NARROWER than '..Said'. Prove '..Said' where nothing that the law and all that it calls make is longer than what came in: it says more and counts as full. Else prove '..UptoSaid'. A law counts once. -/
mutual
def uptoBulk {H : Type} : DataW H → Nat
  | .lit (.string bytes) => bytes.length + 1
  | .lit _ => 1
  | .nil => 1
  | .ptr d => uptoBulk d + 1
  | .slice elems spare => uptoBulkAll elems + uptoBulkAll spare + 1
  | .agg parts => uptoBulkAll parts + 1
  | .iface _ d => uptoBulk d + 1
  | .map entries => uptoBulkEntries entries + 1
  | .held _ => 1
def uptoBulkAll {H : Type} : List (DataW H) → Nat
  | [] => 0
  | d :: r => uptoBulk d + uptoBulkAll r
def uptoBulkEntries {H : Type} : List (Lit × DataW H) → Nat
  | [] => 0
  | x :: r => uptoBulkEntry x + uptoBulkEntries r
def uptoBulkEntry {H : Type} : Lit × DataW H → Nat
  | (.string bytes, d) => bytes.length + uptoBulk d + 1
  | (_, d) => uptoBulk d + 1
 end
def uptoSmall : (H : Type) → List (DataW H) → Bool := fun _ ds => decide (uptoBulkAll ds ≤ 1048576)
def OpenSpec.upto (s : _root_.Go.ChangeSpec) : _root_.Go.OpenSpec := { _root_.Go.OpenSpec.ofChange s with cond := some uptoSmall }

/-- 'teasellaw06.CodeNeeds', WHERE WHAT IT READS IS OF BULK AT MOST 1048576: true; the input reads as it did. -/
def codeNeedsUptoRow : OpenClaim := { program := "ytbnegbjaoiplmaa", sum := "6fa467753cc2537e64231d29f31bc042ad58ec28ee7d05769c80084f2612778b", func := "teasel/teasellaw06.CodeNeeds", spec := "codeNeeds", unfollowed := true, recurses := true, plainKeys := false, apart := false, narrowed := true }
def CodeNeedsUptoSaid : Prop := codeNeedsUptoRow.holds Try.pinned (OpenSpec.upto codeNeedsSpec)

/-- 'teasellaw06.CodeCopies', WHERE WHAT IT READS IS OF BULK AT MOST 1048576: true; the input reads as it did. -/
def codeCopiesUptoRow : OpenClaim := { program := "ytbnegbjaoiplmaa", sum := "6fa467753cc2537e64231d29f31bc042ad58ec28ee7d05769c80084f2612778b", func := "teasel/teasellaw06.CodeCopies", spec := "codeCopies", unfollowed := true, recurses := true, plainKeys := false, apart := false, narrowed := true }
def CodeCopiesUptoSaid : Prop := codeCopiesUptoRow.holds Try.pinned (OpenSpec.upto codeCopiesSpec)

/-- 'teasellaw12.DeadKeeps', WHERE WHAT IT READS IS OF BULK AT MOST 1048576: true; the input reads as it did. -/
def deadKeepsUptoRow : OpenClaim := { program := "ytbnegbjaoiplmaa", sum := "6fa467753cc2537e64231d29f31bc042ad58ec28ee7d05769c80084f2612778b", func := "teasel/teasellaw12.DeadKeeps", spec := "deadKeeps", unfollowed := true, recurses := true, plainKeys := false, apart := false, narrowed := true }
def DeadKeepsUptoSaid : Prop := deadKeepsUptoRow.holds Try.pinned (OpenSpec.upto deadKeepsSpec)

end Rows
end Go.Proofs.Ytbnegbjaoiplmaa
