/-
  No cell of these rows narrows 'for every input' (looked for: loops, veiled, ifaces, maps, wideKeys, modest, calm, conditions, laid).
  DERIVED. THE GIVEN ROWS OF THIS SEAT. 4 by the template 'for every input the law returns true; each argument reads behind the call as it read before'; 0 by the template 'total and deterministic' (their statements: YtiakgffanplmdaaTotals.lean).
  GIVEN WITH THE SEED: the statements are not yours to turn. If you find one false, say at which input.
  Laid BY PROGRAM, IN A SANDBOX (cutbox-rows.mjs): the forced cells as the released guide's own fill.sh prints them over the translation 8f4e021759d6e981… (all of the seat's roots in one cut). By AI agents, Wed Nov 11 2026. No macro, syntax, notation, axiom, sorry.
-/
import Derived.Test.YtiakgffanplmdaaChecked
import GoSem.Claim
import GoSem.ClaimJoined
import GoSem.ClaimMapViews
import Derived.JoinedTies
import Derived.KernelRfl
namespace Go.Proofs.Ytiakgffanplmdaa
/- THE CELL 'sum', in the pinned program and in every row, IS THE sha256 OF THE DUMP (.gsa) THAT YtiakgffanplmdaaProg.lean LOADS. Nothing in Lean hashes anything: it is a label: what it is worth is what the hold of that sum in a sandbox is worth. -/
noncomputable def Try.pinned : Pinned := { name := "ytiakgffanplmdaa", sum := "8f4e021759d6e9815f1ca1cc6d05bcfb04a004d51dcd0fee552902fa05e1c387", checked := Try.checked }
namespace Rows
def none {H : Type} : Left H := { results := [], args := [] }

/-- 'sheaflaw9.LoserRuns': WHATEVER THE INPUT: true; the input reads as it did. -/
def loserRunsSpec : ChangeSpec := { name := "loserRuns", fn := fun _ => fun
  | [] => { results := [.lit (.bool true)], args := [] }
  | _ => none }
def loserRunsRow : OpenClaim := { program := "ytiakgffanplmdaa", sum := "8f4e021759d6e9815f1ca1cc6d05bcfb04a004d51dcd0fee552902fa05e1c387", func := "sheaf/sheaflaw9.LoserRuns", spec := "loserRuns", unfollowed := true, recurses := true, apart := false }
def LoserRunsSaid : Prop := loserRunsRow.holds Try.pinned (OpenSpec.ofChange loserRunsSpec)

/-- ITS FALSE NEIGHBOUR: 'it returns false'. Refute it at one input. -/
def loserRunsWrong : ChangeSpec := { name := "loserRuns", fn := fun _ => fun
  | [] => { results := [.lit (.bool false)], args := [] }
  | _ => none }
def LoserRunsWrongFalsely : Prop := loserRunsRow.holds Try.pinned (OpenSpec.ofChange loserRunsWrong)

/-- 'sheaflaw9.LoserPlays': WHATEVER THE INPUT: true; the input reads as it did. -/
def loserPlaysSpec : ChangeSpec := { name := "loserPlays", fn := fun _ => fun
  | [d] => { results := [.lit (.bool true)], args := [d] }
  | _ => none }
def loserPlaysRow : OpenClaim := { program := "ytiakgffanplmdaa", sum := "8f4e021759d6e9815f1ca1cc6d05bcfb04a004d51dcd0fee552902fa05e1c387", func := "sheaf/sheaflaw9.LoserPlays", spec := "loserPlays", unfollowed := true, recurses := true, apart := false }
def LoserPlaysSaid : Prop := loserPlaysRow.holds Try.pinned (OpenSpec.ofChange loserPlaysSpec)

/-- ITS FALSE NEIGHBOUR: 'it returns false'. Refute it at one input. -/
def loserPlaysWrong : ChangeSpec := { name := "loserPlays", fn := fun _ => fun
  | [d] => { results := [.lit (.bool false)], args := [d] }
  | _ => none }
def LoserPlaysWrongFalsely : Prop := loserPlaysRow.holds Try.pinned (OpenSpec.ofChange loserPlaysWrong)

/-- 'sheaflaw9.LoserEven': WHATEVER THE INPUT: true; the input reads as it did. -/
def loserEvenSpec : ChangeSpec := { name := "loserEven", fn := fun _ => fun
  | [d] => { results := [.lit (.bool true)], args := [d] }
  | _ => none }
def loserEvenRow : OpenClaim := { program := "ytiakgffanplmdaa", sum := "8f4e021759d6e9815f1ca1cc6d05bcfb04a004d51dcd0fee552902fa05e1c387", func := "sheaf/sheaflaw9.LoserEven", spec := "loserEven", unfollowed := true, recurses := true, apart := false }
def LoserEvenSaid : Prop := loserEvenRow.holds Try.pinned (OpenSpec.ofChange loserEvenSpec)

/-- ITS FALSE NEIGHBOUR: 'it returns false'. Refute it at one input. -/
def loserEvenWrong : ChangeSpec := { name := "loserEven", fn := fun _ => fun
  | [d] => { results := [.lit (.bool false)], args := [d] }
  | _ => none }
def LoserEvenWrongFalsely : Prop := loserEvenRow.holds Try.pinned (OpenSpec.ofChange loserEvenWrong)

/-- 'sheaflaw9.LoserRises': WHATEVER THE INPUT: true; the input reads as it did. -/
def loserRisesSpec : ChangeSpec := { name := "loserRises", fn := fun _ => fun
  | [d1, d2] => { results := [.lit (.bool true)], args := [d1, d2] }
  | _ => none }
def loserRisesRow : OpenClaim := { program := "ytiakgffanplmdaa", sum := "8f4e021759d6e9815f1ca1cc6d05bcfb04a004d51dcd0fee552902fa05e1c387", func := "sheaf/sheaflaw9.LoserRises", spec := "loserRises", unfollowed := true, recurses := true, apart := false }
def LoserRisesSaid : Prop := loserRisesRow.holds Try.pinned (OpenSpec.ofChange loserRisesSpec)

/-- ITS FALSE NEIGHBOUR: 'it returns false'. Refute it at one input. -/
def loserRisesWrong : ChangeSpec := { name := "loserRises", fn := fun _ => fun
  | [d1, d2] => { results := [.lit (.bool false)], args := [d1, d2] }
  | _ => none }
def LoserRisesWrongFalsely : Prop := loserRisesRow.holds Try.pinned (OpenSpec.ofChange loserRisesWrong)

/- THE SECOND FORM. 'bulk': how many values and letters a reading holds, each counted each time it is reached (what is shared counts as often as it is met; a slice's spare places count too). A statement '..UptoSaid' is the law's where the arguments, and the package variables that the reading takes, are together of bulk at most 1048576: NARROWER than '..Said'. Prove '..Said' where nothing that the law and all that it calls make is longer than what came in: it says more and counts as full. Else prove '..UptoSaid'. A law counts once. -/
mutual
def uptoBulk {H : Type} : DataW H → Nat
  | .lit (.string bytes) => bytes.length + 1
  | .lit _ => 1
  | .nil => 1
  | .ptr d => uptoBulk d + 1
  | .slice elems spare => uptoBulkAll elems + uptoBulkAll spare + 1
  | .agg parts => uptoBulkAll parts + 1
  | .iface _ d => uptoBulk d + 1
  | .map entries => uptoBulkEntries entries + 1
  | .held _ => 1
def uptoBulkAll {H : Type} : List (DataW H) → Nat
  | [] => 0
  | d :: r => uptoBulk d + uptoBulkAll r
def uptoBulkEntries {H : Type} : List (Lit × DataW H) → Nat
  | [] => 0
  | x :: r => uptoBulkEntry x + uptoBulkEntries r
def uptoBulkEntry {H : Type} : Lit × DataW H → Nat
  | (.string bytes, d) => bytes.length + uptoBulk d + 1
  | (_, d) => uptoBulk d + 1
 end
def uptoSmall : (H : Type) → List (DataW H) → Bool := fun _ ds => decide (uptoBulkAll ds ≤ 1048576)
def OpenSpec.upto (s : _root_.Go.ChangeSpec) : _root_.Go.OpenSpec := { _root_.Go.OpenSpec.ofChange s with cond := some uptoSmall }

/-- 'sheaflaw9.LoserRuns', WHERE WHAT IT READS IS OF BULK AT MOST 1048576: true; the input reads as it did. -/
def loserRunsUptoRow : OpenClaim := { program := "ytiakgffanplmdaa", sum := "8f4e021759d6e9815f1ca1cc6d05bcfb04a004d51dcd0fee552902fa05e1c387", func := "sheaf/sheaflaw9.LoserRuns", spec := "loserRuns", unfollowed := true, recurses := true, apart := false, narrowed := true }
def LoserRunsUptoSaid : Prop := loserRunsUptoRow.holds Try.pinned (OpenSpec.upto loserRunsSpec)

/-- 'sheaflaw9.LoserPlays', WHERE WHAT IT READS IS OF BULK AT MOST 1048576: true; the input reads as it did. -/
def loserPlaysUptoRow : OpenClaim := { program := "ytiakgffanplmdaa", sum := "8f4e021759d6e9815f1ca1cc6d05bcfb04a004d51dcd0fee552902fa05e1c387", func := "sheaf/sheaflaw9.LoserPlays", spec := "loserPlays", unfollowed := true, recurses := true, apart := false, narrowed := true }
def LoserPlaysUptoSaid : Prop := loserPlaysUptoRow.holds Try.pinned (OpenSpec.upto loserPlaysSpec)

/-- 'sheaflaw9.LoserEven', WHERE WHAT IT READS IS OF BULK AT MOST 1048576: true; the input reads as it did. -/
def loserEvenUptoRow : OpenClaim := { program := "ytiakgffanplmdaa", sum := "8f4e021759d6e9815f1ca1cc6d05bcfb04a004d51dcd0fee552902fa05e1c387", func := "sheaf/sheaflaw9.LoserEven", spec := "loserEven", unfollowed := true, recurses := true, apart := false, narrowed := true }
def LoserEvenUptoSaid : Prop := loserEvenUptoRow.holds Try.pinned (OpenSpec.upto loserEvenSpec)

/-- 'sheaflaw9.LoserRises', WHERE WHAT IT READS IS OF BULK AT MOST 1048576: true; the input reads as it did. -/
def loserRisesUptoRow : OpenClaim := { program := "ytiakgffanplmdaa", sum := "8f4e021759d6e9815f1ca1cc6d05bcfb04a004d51dcd0fee552902fa05e1c387", func := "sheaf/sheaflaw9.LoserRises", spec := "loserRises", unfollowed := true, recurses := true, apart := false, narrowed := true }
def LoserRisesUptoSaid : Prop := loserRisesUptoRow.holds Try.pinned (OpenSpec.upto loserRisesSpec)

end Rows
end Go.Proofs.Ytiakgffanplmdaa
