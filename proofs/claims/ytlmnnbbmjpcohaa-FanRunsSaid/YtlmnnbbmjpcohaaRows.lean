/-
  No cell of these rows narrows 'for every input' (looked for: loops, veiled, ifaces, maps, wideKeys, modest, calm, conditions, laid).
  DERIVED. THE GIVEN ROWS OF THIS SEAT. 4 by the template 'for every input the law returns true; each argument reads behind the call as it read before'; 0 by the template 'total and deterministic' (their statements: YtlmnnbbmjpcohaaTotals.lean).
  GIVEN WITH THE SEED: the statements are not yours to turn. If you find one false, say at which input.
  Laid BY PROGRAM, IN A SANDBOX (cutbox-rows.mjs): the forced cells as the released guide's own fill.sh prints them over the translation bc2a7a3b9910be05… (all of the seat's roots in one cut). By AI agents, Wed Nov 11 2026. No macro, syntax, notation, axiom, sorry.
-/
import Derived.Test.YtlmnnbbmjpcohaaChecked
import GoSem.Claim
import GoSem.ClaimJoined
import GoSem.ClaimMapViews
import Derived.JoinedTies
import Derived.KernelRfl
namespace Go.Proofs.Ytlmnnbbmjpcohaa
/- THE CELL 'sum', in the pinned program and in every row, IS THE sha256 OF THE DUMP (.gsa) THAT YtlmnnbbmjpcohaaProg.lean LOADS. Nothing in Lean hashes anything: it is a label: what it is worth is what the hold of that sum in a sandbox is worth. -/
noncomputable def Try.pinned : Pinned := { name := "ytlmnnbbmjpcohaa", sum := "bc2a7a3b9910be05cacbfdc65194a5e002eab579857aaa914156fa80ba6363b3", checked := Try.checked }
namespace Rows
def none {H : Type} : Left H := { results := [], args := [] }

/-- 'sheaflaw12.FanRuns': WHATEVER THE INPUT: true; the input reads as it did. -/
def fanRunsSpec : ChangeSpec := { name := "fanRuns", fn := fun _ => fun
  | [] => { results := [.lit (.bool true)], args := [] }
  | _ => none }
def fanRunsRow : OpenClaim := { program := "ytlmnnbbmjpcohaa", sum := "bc2a7a3b9910be05cacbfdc65194a5e002eab579857aaa914156fa80ba6363b3", func := "sheaf/sheaflaw12.FanRuns", spec := "fanRuns", recurses := true, apart := false }
def FanRunsSaid : Prop := fanRunsRow.holds Try.pinned (OpenSpec.ofChange fanRunsSpec)

/-- ITS FALSE NEIGHBOUR: 'it returns false'. Refute it at one input. -/
def fanRunsWrong : ChangeSpec := { name := "fanRuns", fn := fun _ => fun
  | [] => { results := [.lit (.bool false)], args := [] }
  | _ => none }
def FanRunsWrongFalsely : Prop := fanRunsRow.holds Try.pinned (OpenSpec.ofChange fanRunsWrong)

/-- 'sheaflaw12.FanTells': WHATEVER THE INPUT: true; the input reads as it did. -/
def fanTellsSpec : ChangeSpec := { name := "fanTells", fn := fun _ => fun
  | [d1, d2] => { results := [.lit (.bool true)], args := [d1, d2] }
  | _ => none }
def fanTellsRow : OpenClaim := { program := "ytlmnnbbmjpcohaa", sum := "bc2a7a3b9910be05cacbfdc65194a5e002eab579857aaa914156fa80ba6363b3", func := "sheaf/sheaflaw12.FanTells", spec := "fanTells", recurses := true, apart := false }
def FanTellsSaid : Prop := fanTellsRow.holds Try.pinned (OpenSpec.ofChange fanTellsSpec)

/-- ITS FALSE NEIGHBOUR: 'it returns false'. Refute it at one input. -/
def fanTellsWrong : ChangeSpec := { name := "fanTells", fn := fun _ => fun
  | [d1, d2] => { results := [.lit (.bool false)], args := [d1, d2] }
  | _ => none }
def FanTellsWrongFalsely : Prop := fanTellsRow.holds Try.pinned (OpenSpec.ofChange fanTellsWrong)

/-- 'sheaflaw12.FanEnds': WHATEVER THE INPUT: true; the input reads as it did. -/
def fanEndsSpec : ChangeSpec := { name := "fanEnds", fn := fun _ => fun
  | [d1, d2] => { results := [.lit (.bool true)], args := [d1, d2] }
  | _ => none }
def fanEndsRow : OpenClaim := { program := "ytlmnnbbmjpcohaa", sum := "bc2a7a3b9910be05cacbfdc65194a5e002eab579857aaa914156fa80ba6363b3", func := "sheaf/sheaflaw12.FanEnds", spec := "fanEnds", recurses := true, apart := false }
def FanEndsSaid : Prop := fanEndsRow.holds Try.pinned (OpenSpec.ofChange fanEndsSpec)

/-- ITS FALSE NEIGHBOUR: 'it returns false'. Refute it at one input. -/
def fanEndsWrong : ChangeSpec := { name := "fanEnds", fn := fun _ => fun
  | [d1, d2] => { results := [.lit (.bool false)], args := [d1, d2] }
  | _ => none }
def FanEndsWrongFalsely : Prop := fanEndsRow.holds Try.pinned (OpenSpec.ofChange fanEndsWrong)

/-- 'sheaflaw12.FanLess': WHATEVER THE INPUT: true; the input reads as it did. -/
def fanLessSpec : ChangeSpec := { name := "fanLess", fn := fun _ => fun
  | [d1, d2, d3, d4] => { results := [.lit (.bool true)], args := [d1, d2, d3, d4] }
  | _ => none }
def fanLessRow : OpenClaim := { program := "ytlmnnbbmjpcohaa", sum := "bc2a7a3b9910be05cacbfdc65194a5e002eab579857aaa914156fa80ba6363b3", func := "sheaf/sheaflaw12.FanLess", spec := "fanLess", recurses := true, apart := false }
def FanLessSaid : Prop := fanLessRow.holds Try.pinned (OpenSpec.ofChange fanLessSpec)

/-- ITS FALSE NEIGHBOUR: 'it returns false'. Refute it at one input. -/
def fanLessWrong : ChangeSpec := { name := "fanLess", fn := fun _ => fun
  | [d1, d2, d3, d4] => { results := [.lit (.bool false)], args := [d1, d2, d3, d4] }
  | _ => none }
def FanLessWrongFalsely : Prop := fanLessRow.holds Try.pinned (OpenSpec.ofChange fanLessWrong)

/- THE SECOND FORM. 'bulk': how many values and letters a reading holds, each counted each time it is reached (what is shared counts as often as it is met; a slice's spare places count too). A statement '..UptoSaid' is the law's where the arguments, and the package variables that the reading takes, are together of bulk at most 1048576: NARROWER than '..Said'. Prove '..Said' where nothing that the law and all that it calls make is longer than what came in: it says more and counts as full. Else prove '..UptoSaid'. A law counts once. -/
mutual
def uptoBulk {H : Type} : DataW H → Nat
  | .lit (.string bytes) => bytes.length + 1
  | .lit _ => 1
  | .nil => 1
  | .ptr d => uptoBulk d + 1
  | .slice elems spare => uptoBulkAll elems + uptoBulkAll spare + 1
  | .agg parts => uptoBulkAll parts + 1
  | .iface _ d => uptoBulk d + 1
  | .map entries => uptoBulkEntries entries + 1
  | .held _ => 1
def uptoBulkAll {H : Type} : List (DataW H) → Nat
  | [] => 0
  | d :: r => uptoBulk d + uptoBulkAll r
def uptoBulkEntries {H : Type} : List (Lit × DataW H) → Nat
  | [] => 0
  | x :: r => uptoBulkEntry x + uptoBulkEntries r
def uptoBulkEntry {H : Type} : Lit × DataW H → Nat
  | (.string bytes, d) => bytes.length + uptoBulk d + 1
  | (_, d) => uptoBulk d + 1
 end
def uptoSmall : (H : Type) → List (DataW H) → Bool := fun _ ds => decide (uptoBulkAll ds ≤ 1048576)
def OpenSpec.upto (s : _root_.Go.ChangeSpec) : _root_.Go.OpenSpec := { _root_.Go.OpenSpec.ofChange s with cond := some uptoSmall }

/-- 'sheaflaw12.FanRuns', WHERE WHAT IT READS IS OF BULK AT MOST 1048576: true; the input reads as it did. -/
def fanRunsUptoRow : OpenClaim := { program := "ytlmnnbbmjpcohaa", sum := "bc2a7a3b9910be05cacbfdc65194a5e002eab579857aaa914156fa80ba6363b3", func := "sheaf/sheaflaw12.FanRuns", spec := "fanRuns", recurses := true, apart := false, narrowed := true }
def FanRunsUptoSaid : Prop := fanRunsUptoRow.holds Try.pinned (OpenSpec.upto fanRunsSpec)

/-- 'sheaflaw12.FanTells', WHERE WHAT IT READS IS OF BULK AT MOST 1048576: true; the input reads as it did. -/
def fanTellsUptoRow : OpenClaim := { program := "ytlmnnbbmjpcohaa", sum := "bc2a7a3b9910be05cacbfdc65194a5e002eab579857aaa914156fa80ba6363b3", func := "sheaf/sheaflaw12.FanTells", spec := "fanTells", recurses := true, apart := false, narrowed := true }
def FanTellsUptoSaid : Prop := fanTellsUptoRow.holds Try.pinned (OpenSpec.upto fanTellsSpec)

/-- 'sheaflaw12.FanEnds', WHERE WHAT IT READS IS OF BULK AT MOST 1048576: true; the input reads as it did. -/
def fanEndsUptoRow : OpenClaim := { program := "ytlmnnbbmjpcohaa", sum := "bc2a7a3b9910be05cacbfdc65194a5e002eab579857aaa914156fa80ba6363b3", func := "sheaf/sheaflaw12.FanEnds", spec := "fanEnds", recurses := true, apart := false, narrowed := true }
def FanEndsUptoSaid : Prop := fanEndsUptoRow.holds Try.pinned (OpenSpec.upto fanEndsSpec)

/-- 'sheaflaw12.FanLess', WHERE WHAT IT READS IS OF BULK AT MOST 1048576: true; the input reads as it did. -/
def fanLessUptoRow : OpenClaim := { program := "ytlmnnbbmjpcohaa", sum := "bc2a7a3b9910be05cacbfdc65194a5e002eab579857aaa914156fa80ba6363b3", func := "sheaf/sheaflaw12.FanLess", spec := "fanLess", recurses := true, apart := false, narrowed := true }
def FanLessUptoSaid : Prop := fanLessUptoRow.holds Try.pinned (OpenSpec.upto fanLessSpec)

end Rows
end Go.Proofs.Ytlmnnbbmjpcohaa
