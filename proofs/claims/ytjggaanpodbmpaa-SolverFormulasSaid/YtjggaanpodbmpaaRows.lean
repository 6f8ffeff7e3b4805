/-
  No cell of these rows narrows 'for every input' (looked for: loops, veiled, ifaces, maps, wideKeys, modest, calm, conditions, laid).
  DERIVED. THE GIVEN ROWS OF THIS SEAT. 9 by the template 'for every input the law returns true; each argument reads behind the call as it read before'; 0 by the template 'total and deterministic' (their statements: YtjggaanpodbmpaaTotals.lean).
  GIVEN WITH THE SEED: the statements are not yours to turn. If you find one false, say at which input.
  Laid BY PROGRAM, IN A SANDBOX (cutbox-rows.mjs): the forced cells as the released guide's own fill.sh prints them over the translation 175e9c36d1b59d2b… (all of the seat's roots in one cut). By AI agents, Wed Nov 11 2026. No macro, syntax, notation, axiom, sorry.
-/
import Derived.Test.YtjggaanpodbmpaaChecked
import GoSem.Claim
import GoSem.ClaimJoined
import GoSem.ClaimMapViews
import Derived.JoinedTies
import Derived.KernelRfl
namespace Go.Proofs.Ytjggaanpodbmpaa
/- THE CELL 'sum', in the pinned program and in every row, IS THE sha256 OF THE DUMP (.gsa) THAT YtjggaanpodbmpaaProg.lean LOADS. Nothing in Lean hashes anything: it is a label: what it is worth is what the hold of that sum in a sandbox is worth. -/
noncomputable def Try.pinned : Pinned := { name := "ytjggaanpodbmpaa", sum := "175e9c36d1b59d2b5f25ee248ce2819ffbdb9f3c59eb7d1ea36f9eb4adca89a4", checked := Try.checked }
namespace Rows
def none {H : Type} : Left H := { results := [], args := [] }

/-- 'stutterlaw29.SolverDecides': WHATEVER THE INPUT: true; the input reads as it did. -/
def solverDecidesSpec : ChangeSpec := { name := "solverDecides", fn := fun _ => fun
  | [d] => { results := [.lit (.bool true)], args := [d] }
  | _ => none }
def solverDecidesRow : OpenClaim := { program := "ytjggaanpodbmpaa", sum := "175e9c36d1b59d2b5f25ee248ce2819ffbdb9f3c59eb7d1ea36f9eb4adca89a4", func := "stutter/stutterlaw29.SolverDecides", spec := "solverDecides", unfollowed := true, recurses := true, apart := false }
def SolverDecidesSaid : Prop := solverDecidesRow.holds Try.pinned (OpenSpec.ofChange solverDecidesSpec)

/-- ITS FALSE NEIGHBOUR: 'it returns false'. Refute it at one input. -/
def solverDecidesWrong : ChangeSpec := { name := "solverDecides", fn := fun _ => fun
  | [d] => { results := [.lit (.bool false)], args := [d] }
  | _ => none }
def SolverDecidesWrongFalsely : Prop := solverDecidesRow.holds Try.pinned (OpenSpec.ofChange solverDecidesWrong)

/-- 'stutterlaw29.SolverCores': WHATEVER THE INPUT: true; the input reads as it did. -/
def solverCoresSpec : ChangeSpec := { name := "solverCores", fn := fun _ => fun
  | [d] => { results := [.lit (.bool true)], args := [d] }
  | _ => none }
def solverCoresRow : OpenClaim := { program := "ytjggaanpodbmpaa", sum := "175e9c36d1b59d2b5f25ee248ce2819ffbdb9f3c59eb7d1ea36f9eb4adca89a4", func := "stutter/stutterlaw29.SolverCores", spec := "solverCores", unfollowed := true, recurses := true, apart := false }
def SolverCoresSaid : Prop := solverCoresRow.holds Try.pinned (OpenSpec.ofChange solverCoresSpec)

/-- ITS FALSE NEIGHBOUR: 'it returns false'. Refute it at one input. -/
def solverCoresWrong : ChangeSpec := { name := "solverCores", fn := fun _ => fun
  | [d] => { results := [.lit (.bool false)], args := [d] }
  | _ => none }
def SolverCoresWrongFalsely : Prop := solverCoresRow.holds Try.pinned (OpenSpec.ofChange solverCoresWrong)

/-- 'stutterlaw29.SolverFormulas': WHATEVER THE INPUT: true; the input reads as it did. -/
def solverFormulasSpec : ChangeSpec := { name := "solverFormulas", fn := fun _ => fun
  | [d1, d2] => { results := [.lit (.bool true)], args := [d1, d2] }
  | _ => none }
def solverFormulasRow : OpenClaim := { program := "ytjggaanpodbmpaa", sum := "175e9c36d1b59d2b5f25ee248ce2819ffbdb9f3c59eb7d1ea36f9eb4adca89a4", func := "stutter/stutterlaw29.SolverFormulas", spec := "solverFormulas", unfollowed := true, recurses := true, apart := false }
def SolverFormulasSaid : Prop := solverFormulasRow.holds Try.pinned (OpenSpec.ofChange solverFormulasSpec)

/-- ITS FALSE NEIGHBOUR: 'it returns false'. Refute it at one input. -/
def solverFormulasWrong : ChangeSpec := { name := "solverFormulas", fn := fun _ => fun
  | [d1, d2] => { results := [.lit (.bool false)], args := [d1, d2] }
  | _ => none }
def SolverFormulasWrongFalsely : Prop := solverFormulasRow.holds Try.pinned (OpenSpec.ofChange solverFormulasWrong)

/-- 'stutterlaw29.SolverPropagates': WHATEVER THE INPUT: true; the input reads as it did. -/
def solverPropagatesSpec : ChangeSpec := { name := "solverPropagates", fn := fun _ => fun
  | [d1, d2] => { results := [.lit (.bool true)], args := [d1, d2] }
  | _ => none }
def solverPropagatesRow : OpenClaim := { program := "ytjggaanpodbmpaa", sum := "175e9c36d1b59d2b5f25ee248ce2819ffbdb9f3c59eb7d1ea36f9eb4adca89a4", func := "stutter/stutterlaw29.SolverPropagates", spec := "solverPropagates", unfollowed := true, recurses := true, apart := false }
def SolverPropagatesSaid : Prop := solverPropagatesRow.holds Try.pinned (OpenSpec.ofChange solverPropagatesSpec)

/-- ITS FALSE NEIGHBOUR: 'it returns false'. Refute it at one input. -/
def solverPropagatesWrong : ChangeSpec := { name := "solverPropagates", fn := fun _ => fun
  | [d1, d2] => { results := [.lit (.bool false)], args := [d1, d2] }
  | _ => none }
def SolverPropagatesWrongFalsely : Prop := solverPropagatesRow.holds Try.pinned (OpenSpec.ofChange solverPropagatesWrong)

/-- 'stutterlaw29.SolverSound': WHATEVER THE INPUT: true; the input reads as it did. -/
def solverSoundSpec : ChangeSpec := { name := "solverSound", fn := fun _ => fun
  | [d1, d2] => { results := [.lit (.bool true)], args := [d1, d2] }
  | _ => none }
def solverSoundRow : OpenClaim := { program := "ytjggaanpodbmpaa", sum := "175e9c36d1b59d2b5f25ee248ce2819ffbdb9f3c59eb7d1ea36f9eb4adca89a4", func := "stutter/stutterlaw29.SolverSound", spec := "solverSound", unfollowed := true, recurses := true, apart := false }
def SolverSoundSaid : Prop := solverSoundRow.holds Try.pinned (OpenSpec.ofChange solverSoundSpec)

/-- ITS FALSE NEIGHBOUR: 'it returns false'. Refute it at one input. -/
def solverSoundWrong : ChangeSpec := { name := "solverSound", fn := fun _ => fun
  | [d1, d2] => { results := [.lit (.bool false)], args := [d1, d2] }
  | _ => none }
def SolverSoundWrongFalsely : Prop := solverSoundRow.holds Try.pinned (OpenSpec.ofChange solverSoundWrong)

/-- 'stutterlaw29.SolverAssumes': WHATEVER THE INPUT: true; the input reads as it did. -/
def solverAssumesSpec : ChangeSpec := { name := "solverAssumes", fn := fun _ => fun
  | [d1, d2] => { results := [.lit (.bool true)], args := [d1, d2] }
  | _ => none }
def solverAssumesRow : OpenClaim := { program := "ytjggaanpodbmpaa", sum := "175e9c36d1b59d2b5f25ee248ce2819ffbdb9f3c59eb7d1ea36f9eb4adca89a4", func := "stutter/stutterlaw29.SolverAssumes", spec := "solverAssumes", unfollowed := true, recurses := true, apart := false }
def SolverAssumesSaid : Prop := solverAssumesRow.holds Try.pinned (OpenSpec.ofChange solverAssumesSpec)

/-- ITS FALSE NEIGHBOUR: 'it returns false'. Refute it at one input. -/
def solverAssumesWrong : ChangeSpec := { name := "solverAssumes", fn := fun _ => fun
  | [d1, d2] => { results := [.lit (.bool false)], args := [d1, d2] }
  | _ => none }
def SolverAssumesWrongFalsely : Prop := solverAssumesRow.holds Try.pinned (OpenSpec.ofChange solverAssumesWrong)

/-- 'stutterlaw29.SolverAccepts': WHATEVER THE INPUT: true; the input reads as it did. -/
def solverAcceptsSpec : ChangeSpec := { name := "solverAccepts", fn := fun _ => fun
  | [d1, d2] => { results := [.lit (.bool true)], args := [d1, d2] }
  | _ => none }
def solverAcceptsRow : OpenClaim := { program := "ytjggaanpodbmpaa", sum := "175e9c36d1b59d2b5f25ee248ce2819ffbdb9f3c59eb7d1ea36f9eb4adca89a4", func := "stutter/stutterlaw29.SolverAccepts", spec := "solverAccepts", unfollowed := true, recurses := true, apart := false }
def SolverAcceptsSaid : Prop := solverAcceptsRow.holds Try.pinned (OpenSpec.ofChange solverAcceptsSpec)

/-- ITS FALSE NEIGHBOUR: 'it returns false'. Refute it at one input. -/
def solverAcceptsWrong : ChangeSpec := { name := "solverAccepts", fn := fun _ => fun
  | [d1, d2] => { results := [.lit (.bool false)], args := [d1, d2] }
  | _ => none }
def SolverAcceptsWrongFalsely : Prop := solverAcceptsRow.holds Try.pinned (OpenSpec.ofChange solverAcceptsWrong)

/-- 'stutterlaw29.SolverCut': WHATEVER THE INPUT: true; the input reads as it did. -/
def solverCutSpec : ChangeSpec := { name := "solverCut", fn := fun _ => fun
  | [d1, d2] => { results := [.lit (.bool true)], args := [d1, d2] }
  | _ => none }
def solverCutRow : OpenClaim := { program := "ytjggaanpodbmpaa", sum := "175e9c36d1b59d2b5f25ee248ce2819ffbdb9f3c59eb7d1ea36f9eb4adca89a4", func := "stutter/stutterlaw29.SolverCut", spec := "solverCut", unfollowed := true, recurses := true, apart := false }
def SolverCutSaid : Prop := solverCutRow.holds Try.pinned (OpenSpec.ofChange solverCutSpec)

/-- ITS FALSE NEIGHBOUR: 'it returns false'. Refute it at one input. -/
def solverCutWrong : ChangeSpec := { name := "solverCut", fn := fun _ => fun
  | [d1, d2] => { results := [.lit (.bool false)], args := [d1, d2] }
  | _ => none }
def SolverCutWrongFalsely : Prop := solverCutRow.holds Try.pinned (OpenSpec.ofChange solverCutWrong)

/-- 'stutterlaw29.SolverResolves': WHATEVER THE INPUT: true; the input reads as it did. -/
def solverResolvesSpec : ChangeSpec := { name := "solverResolves", fn := fun _ => fun
  | [d1, d2, d3] => { results := [.lit (.bool true)], args := [d1, d2, d3] }
  | _ => none }
def solverResolvesRow : OpenClaim := { program := "ytjggaanpodbmpaa", sum := "175e9c36d1b59d2b5f25ee248ce2819ffbdb9f3c59eb7d1ea36f9eb4adca89a4", func := "stutter/stutterlaw29.SolverResolves", spec := "solverResolves", unfollowed := true, recurses := true, apart := false }
def SolverResolvesSaid : Prop := solverResolvesRow.holds Try.pinned (OpenSpec.ofChange solverResolvesSpec)

/-- ITS FALSE NEIGHBOUR: 'it returns false'. Refute it at one input. -/
def solverResolvesWrong : ChangeSpec := { name := "solverResolves", fn := fun _ => fun
  | [d1, d2, d3] => { results := [.lit (.bool false)], args := [d1, d2, d3] }
  | _ => none }
def SolverResolvesWrongFalsely : Prop := solverResolvesRow.holds Try.pinned (OpenSpec.ofChange solverResolvesWrong)

/- THE SECOND FORM. 'bulk': how many values and letters a reading holds, each counted each time it is reached (what is shared counts as often as it is met; a slice's spare places count too). A statement '..UptoSaid' is the law's where the arguments, and the package variables that the reading takes, are together of bulk at most 1048576: NARROWER than '..Said'. Prove '..Said' where nothing that the law and all that it calls make is longer than what came in: it says more and counts as full. Else prove '..UptoSaid'. A law counts once. -/
mutual
def uptoBulk {H : Type} : DataW H → Nat
  | .lit (.string bytes) => bytes.length + 1
  | .lit _ => 1
  | .nil => 1
  | .ptr d => uptoBulk d + 1
  | .slice elems spare => uptoBulkAll elems + uptoBulkAll spare + 1
  | .agg parts => uptoBulkAll parts + 1
  | .iface _ d => uptoBulk d + 1
  | .map entries => uptoBulkEntries entries + 1
  | .held _ => 1
def uptoBulkAll {H : Type} : List (DataW H) → Nat
  | [] => 0
  | d :: r => uptoBulk d + uptoBulkAll r
def uptoBulkEntries {H : Type} : List (Lit × DataW H) → Nat
  | [] => 0
  | x :: r => uptoBulkEntry x + uptoBulkEntries r
def uptoBulkEntry {H : Type} : Lit × DataW H → Nat
  | (.string bytes, d) => bytes.length + uptoBulk d + 1
  | (_, d) => uptoBulk d + 1
 end
def uptoSmall : (H : Type) → List (DataW H) → Bool := fun _ ds => decide (uptoBulkAll ds ≤ 1048576)
def OpenSpec.upto (s : _root_.Go.ChangeSpec) : _root_.Go.OpenSpec := { _root_.Go.OpenSpec.ofChange s with cond := some uptoSmall }

/-- 'stutterlaw29.SolverDecides', WHERE WHAT IT READS IS OF BULK AT MOST 1048576: true; the input reads as it did. -/
def solverDecidesUptoRow : OpenClaim := { program := "ytjggaanpodbmpaa", sum := "175e9c36d1b59d2b5f25ee248ce2819ffbdb9f3c59eb7d1ea36f9eb4adca89a4", func := "stutter/stutterlaw29.SolverDecides", spec := "solverDecides", unfollowed := true, recurses := true, apart := false, narrowed := true }
def SolverDecidesUptoSaid : Prop := solverDecidesUptoRow.holds Try.pinned (OpenSpec.upto solverDecidesSpec)

/-- 'stutterlaw29.SolverCores', WHERE WHAT IT READS IS OF BULK AT MOST 1048576: true; the input reads as it did. -/
def solverCoresUptoRow : OpenClaim := { program := "ytjggaanpodbmpaa", sum := "175e9c36d1b59d2b5f25ee248ce2819ffbdb9f3c59eb7d1ea36f9eb4adca89a4", func := "stutter/stutterlaw29.SolverCores", spec := "solverCores", unfollowed := true, recurses := true, apart := false, narrowed := true }
def SolverCoresUptoSaid : Prop := solverCoresUptoRow.holds Try.pinned (OpenSpec.upto solverCoresSpec)

/-- 'stutterlaw29.SolverFormulas', WHERE WHAT IT READS IS OF BULK AT MOST 1048576: true; the input reads as it did. -/
def solverFormulasUptoRow : OpenClaim := { program := "ytjggaanpodbmpaa", sum := "175e9c36d1b59d2b5f25ee248ce2819ffbdb9f3c59eb7d1ea36f9eb4adca89a4", func := "stutter/stutterlaw29.SolverFormulas", spec := "solverFormulas", unfollowed := true, recurses := true, apart := false, narrowed := true }
def SolverFormulasUptoSaid : Prop := solverFormulasUptoRow.holds Try.pinned (OpenSpec.upto solverFormulasSpec)

/-- 'stutterlaw29.SolverPropagates', WHERE WHAT IT READS IS OF BULK AT MOST 1048576: true; the input reads as it did. -/
def solverPropagatesUptoRow : OpenClaim := { program := "ytjggaanpodbmpaa", sum := "175e9c36d1b59d2b5f25ee248ce2819ffbdb9f3c59eb7d1ea36f9eb4adca89a4", func := "stutter/stutterlaw29.SolverPropagates", spec := "solverPropagates", unfollowed := true, recurses := true, apart := false, narrowed := true }
def SolverPropagatesUptoSaid : Prop := solverPropagatesUptoRow.holds Try.pinned (OpenSpec.upto solverPropagatesSpec)

/-- 'stutterlaw29.SolverSound', WHERE WHAT IT READS IS OF BULK AT MOST 1048576: true; the input reads as it did. -/
def solverSoundUptoRow : OpenClaim := { program := "ytjggaanpodbmpaa", sum := "175e9c36d1b59d2b5f25ee248ce2819ffbdb9f3c59eb7d1ea36f9eb4adca89a4", func := "stutter/stutterlaw29.SolverSound", spec := "solverSound", unfollowed := true, recurses := true, apart := false, narrowed := true }
def SolverSoundUptoSaid : Prop := solverSoundUptoRow.holds Try.pinned (OpenSpec.upto solverSoundSpec)

/-- 'stutterlaw29.SolverAssumes', WHERE WHAT IT READS IS OF BULK AT MOST 1048576: true; the input reads as it did. -/
def solverAssumesUptoRow : OpenClaim := { program := "ytjggaanpodbmpaa", sum := "175e9c36d1b59d2b5f25ee248ce2819ffbdb9f3c59eb7d1ea36f9eb4adca89a4", func := "stutter/stutterlaw29.SolverAssumes", spec := "solverAssumes", unfollowed := true, recurses := true, apart := false, narrowed := true }
def SolverAssumesUptoSaid : Prop := solverAssumesUptoRow.holds Try.pinned (OpenSpec.upto solverAssumesSpec)

/-- 'stutterlaw29.SolverAccepts', WHERE WHAT IT READS IS OF BULK AT MOST 1048576: true; the input reads as it did. -/
def solverAcceptsUptoRow : OpenClaim := { program := "ytjggaanpodbmpaa", sum := "175e9c36d1b59d2b5f25ee248ce2819ffbdb9f3c59eb7d1ea36f9eb4adca89a4", func := "stutter/stutterlaw29.SolverAccepts", spec := "solverAccepts", unfollowed := true, recurses := true, apart := false, narrowed := true }
def SolverAcceptsUptoSaid : Prop := solverAcceptsUptoRow.holds Try.pinned (OpenSpec.upto solverAcceptsSpec)

/-- 'stutterlaw29.SolverCut', WHERE WHAT IT READS IS OF BULK AT MOST 1048576: true; the input reads as it did. -/
def solverCutUptoRow : OpenClaim := { program := "ytjggaanpodbmpaa", sum := "175e9c36d1b59d2b5f25ee248ce2819ffbdb9f3c59eb7d1ea36f9eb4adca89a4", func := "stutter/stutterlaw29.SolverCut", spec := "solverCut", unfollowed := true, recurses := true, apart := false, narrowed := true }
def SolverCutUptoSaid : Prop := solverCutUptoRow.holds Try.pinned (OpenSpec.upto solverCutSpec)

/-- 'stutterlaw29.SolverResolves', WHERE WHAT IT READS IS OF BULK AT MOST 1048576: true; the input reads as it did. -/
def solverResolvesUptoRow : OpenClaim := { program := "ytjggaanpodbmpaa", sum := "175e9c36d1b59d2b5f25ee248ce2819ffbdb9f3c59eb7d1ea36f9eb4adca89a4", func := "stutter/stutterlaw29.SolverResolves", spec := "solverResolves", unfollowed := true, recurses := true, apart := false, narrowed := true }
def SolverResolvesUptoSaid : Prop := solverResolvesUptoRow.holds Try.pinned (OpenSpec.upto solverResolvesSpec)

end Rows
end Go.Proofs.Ytjggaanpodbmpaa
