/-
  NARROWER THAN 'FOR EVERY INPUT', by the rows' own cells (each row's printed sentence says how): SpanComposes: laid · SpanWays: laid · SpanNets: laid · SpanSolves: laid · SpanKeeps: laid.
  DERIVED. THE GIVEN ROWS OF THIS SEAT. 5 by the template 'for every input the law returns true; each argument reads behind the call as it read before'; 0 by the template 'total and deterministic' (their statements: YtpmppgmnnnlonaaDoorTotals.lean).
  GIVEN WITH THE SEED: the statements are not yours to turn. If you find one false, say at which input.
  Laid BY PROGRAM, IN A SANDBOX (cutbox-rows.mjs): the forced cells as the released guide's own fill.sh prints them over the translation 957d1b937b8a7b6b… (all of the seat's roots in one cut). By AI agents, Wed Nov 11 2026. No macro, syntax, notation, axiom, sorry.
-/
import Derived.Test.YtpmppgmnnnlonaaDoorChecked
import GoSem.Claim
import GoSem.ClaimJoined
import GoSem.ClaimMapViews
import Derived.JoinedTies
import Derived.KernelRfl
namespace Go.Proofs.YtpmppgmnnnlonaaDoor
/- THE CELL 'sum', in the pinned program and in every row, IS THE sha256 OF THE DUMP (.gsa) THAT YtpmppgmnnnlonaaDoorProg.lean LOADS. Nothing in Lean hashes anything: it is a label: what it is worth is what the hold of that sum in a sandbox is worth. -/
noncomputable def Tryd.pinned : Pinned := { name := "ytpmppgmnnnlonaadoor", sum := "957d1b937b8a7b6bbd15c7806b45724441f476f6522f8c35e3359d13a581226d", checked := Tryd.checked }
namespace Rows
def none {H : Type} : Left H := { results := [], args := [] }

/- WHAT THE LISTED PACKAGE-LEVEL VARIABLES READ AS WHEN THE CALL BEGINS. Each datum BY PROGRAM (the guide's laid-datum.mjs) off the statement by which the dump's own 'gosem.cut.vars' lays the variable. In a bare row this is a premise. The card (YtpmppgmnnnlonaaDoorCards.lean) ties it to the program's text. -/
def laid_errors_errorType {H : Type} : DataW H := .iface "internal/reflectlite.rtype" (.agg [.ptr (.lit (.string [101, 114, 114, 111, 114]))])

/-- 'almanackeep.SpanComposes': WHATEVER THE INPUT: true; the input reads as it did. -/
def spanComposesSpec : ChangeSpec := { name := "spanComposes", fn := fun _ => fun
  | [d1, d2, d3, d4, d5] => { results := [.lit (.bool true)], args := [d1, d2, d3, d4, d5] }
  | _ => none }
def spanComposesRow : OpenClaim := { program := "ytpmppgmnnnlonaadoor", sum := "957d1b937b8a7b6bbd15c7806b45724441f476f6522f8c35e3359d13a581226d", func := "almanac/almanackeep.SpanComposes", spec := "spanComposes", inPlace := ["internal/reflectlite.ValueOf", "(internal/reflectlite.Value).Type", "(internal/reflectlite.Value).IsNil", "internal/reflectlite.TypeOf", "(internal/reflectlite.Value).Elem", "(internal/reflectlite.Value).Set"], unfollowed := true, recurses := true, named := ["errors.errorType"], apart := false, laid := [("errors.errorType", laid_errors_errorType)] }
def SpanComposesSaid : Prop := spanComposesRow.holds Tryd.pinned (OpenSpec.ofChange spanComposesSpec)

/-- ITS FALSE NEIGHBOUR: 'it returns false'. Refute it at one input. -/
def spanComposesWrong : ChangeSpec := { name := "spanComposes", fn := fun _ => fun
  | [d1, d2, d3, d4, d5] => { results := [.lit (.bool false)], args := [d1, d2, d3, d4, d5] }
  | _ => none }
def SpanComposesWrongFalsely : Prop := spanComposesRow.holds Tryd.pinned (OpenSpec.ofChange spanComposesWrong)

/-- 'almanaclaw.SpanWays': WHATEVER THE INPUT: true; the input reads as it did. -/
def spanWaysSpec : ChangeSpec := { name := "spanWays", fn := fun _ => fun
  | [d1, d2, d3, d4] => { results := [.lit (.bool true)], args := [d1, d2, d3, d4] }
  | _ => none }
def spanWaysRow : OpenClaim := { program := "ytpmppgmnnnlonaadoor", sum := "957d1b937b8a7b6bbd15c7806b45724441f476f6522f8c35e3359d13a581226d", func := "almanac/almanaclaw.SpanWays", spec := "spanWays", inPlace := ["internal/reflectlite.ValueOf", "(internal/reflectlite.Value).Type", "(internal/reflectlite.Value).IsNil", "internal/reflectlite.TypeOf", "(internal/reflectlite.Value).Elem", "(internal/reflectlite.Value).Set"], unfollowed := true, recurses := true, named := ["errors.errorType"], apart := false, laid := [("errors.errorType", laid_errors_errorType)] }
def SpanWaysSaid : Prop := spanWaysRow.holds Tryd.pinned (OpenSpec.ofChange spanWaysSpec)

/-- ITS FALSE NEIGHBOUR: 'it returns false'. Refute it at one input. -/
def spanWaysWrong : ChangeSpec := { name := "spanWays", fn := fun _ => fun
  | [d1, d2, d3, d4] => { results := [.lit (.bool false)], args := [d1, d2, d3, d4] }
  | _ => none }
def SpanWaysWrongFalsely : Prop := spanWaysRow.holds Tryd.pinned (OpenSpec.ofChange spanWaysWrong)

/-- 'almanaclaw.SpanNets': WHATEVER THE INPUT: true; the input reads as it did. -/
def spanNetsSpec : ChangeSpec := { name := "spanNets", fn := fun _ => fun
  | [d1, d2] => { results := [.lit (.bool true)], args := [d1, d2] }
  | _ => none }
def spanNetsRow : OpenClaim := { program := "ytpmppgmnnnlonaadoor", sum := "957d1b937b8a7b6bbd15c7806b45724441f476f6522f8c35e3359d13a581226d", func := "almanac/almanaclaw.SpanNets", spec := "spanNets", inPlace := ["internal/reflectlite.ValueOf", "(internal/reflectlite.Value).Type", "(internal/reflectlite.Value).IsNil", "internal/reflectlite.TypeOf", "(internal/reflectlite.Value).Elem", "(internal/reflectlite.Value).Set"], unfollowed := true, recurses := true, named := ["errors.errorType"], apart := false, laid := [("errors.errorType", laid_errors_errorType)] }
def SpanNetsSaid : Prop := spanNetsRow.holds Tryd.pinned (OpenSpec.ofChange spanNetsSpec)

/-- ITS FALSE NEIGHBOUR: 'it returns false'. Refute it at one input. -/
def spanNetsWrong : ChangeSpec := { name := "spanNets", fn := fun _ => fun
  | [d1, d2] => { results := [.lit (.bool false)], args := [d1, d2] }
  | _ => none }
def SpanNetsWrongFalsely : Prop := spanNetsRow.holds Tryd.pinned (OpenSpec.ofChange spanNetsWrong)

/-- 'almanaclaw.SpanSolves': WHATEVER THE INPUT: true; the input reads as it did. -/
def spanSolvesSpec : ChangeSpec := { name := "spanSolves", fn := fun _ => fun
  | [d] => { results := [.lit (.bool true)], args := [d] }
  | _ => none }
def spanSolvesRow : OpenClaim := { program := "ytpmppgmnnnlonaadoor", sum := "957d1b937b8a7b6bbd15c7806b45724441f476f6522f8c35e3359d13a581226d", func := "almanac/almanaclaw.SpanSolves", spec := "spanSolves", inPlace := ["internal/reflectlite.ValueOf", "(internal/reflectlite.Value).Type", "(internal/reflectlite.Value).IsNil", "internal/reflectlite.TypeOf", "(internal/reflectlite.Value).Elem", "(internal/reflectlite.Value).Set"], unfollowed := true, recurses := true, named := ["errors.errorType"], apart := false, laid := [("errors.errorType", laid_errors_errorType)] }
def SpanSolvesSaid : Prop := spanSolvesRow.holds Tryd.pinned (OpenSpec.ofChange spanSolvesSpec)

/-- ITS FALSE NEIGHBOUR: 'it returns false'. Refute it at one input. -/
def spanSolvesWrong : ChangeSpec := { name := "spanSolves", fn := fun _ => fun
  | [d] => { results := [.lit (.bool false)], args := [d] }
  | _ => none }
def SpanSolvesWrongFalsely : Prop := spanSolvesRow.holds Tryd.pinned (OpenSpec.ofChange spanSolvesWrong)

/-- 'almanackeep.SpanKeeps': WHATEVER THE INPUT: true; the input reads as it did. -/
def spanKeepsSpec : ChangeSpec := { name := "spanKeeps", fn := fun _ => fun
  | [d1, d2] => { results := [.lit (.bool true)], args := [d1, d2] }
  | _ => none }
def spanKeepsRow : OpenClaim := { program := "ytpmppgmnnnlonaadoor", sum := "957d1b937b8a7b6bbd15c7806b45724441f476f6522f8c35e3359d13a581226d", func := "almanac/almanackeep.SpanKeeps", spec := "spanKeeps", inPlace := ["internal/reflectlite.ValueOf", "(internal/reflectlite.Value).Type", "(internal/reflectlite.Value).IsNil", "internal/reflectlite.TypeOf", "(internal/reflectlite.Value).Elem", "(internal/reflectlite.Value).Set"], unfollowed := true, recurses := true, named := ["errors.errorType"], apart := false, laid := [("errors.errorType", laid_errors_errorType)] }
def SpanKeepsSaid : Prop := spanKeepsRow.holds Tryd.pinned (OpenSpec.ofChange spanKeepsSpec)

/-- ITS FALSE NEIGHBOUR: 'it returns false'. Refute it at one input. -/
def spanKeepsWrong : ChangeSpec := { name := "spanKeeps", fn := fun _ => fun
  | [d1, d2] => { results := [.lit (.bool false)], args := [d1, d2] }
  | _ => none }
def SpanKeepsWrongFalsely : Prop := spanKeepsRow.holds Tryd.pinned (OpenSpec.ofChange spanKeepsWrong)

/- THE SECOND FORM. 'bulk': how many values and letters a reading holds, each counted each time it is reached (what is shared counts as often as it is met; a slice's spare places count too). A statement '..UptoSaid' is the law's where the arguments, and the package variables that the reading takes, are together of bulk at most 1048576: NARROWER than '..Said'. Prove '..Said' where nothing that the law and all that it calls make is longer than what came in: it says more and counts as full. Else prove '..UptoSaid'. A law counts once. -/
mutual
def uptoBulk {H : Type} : DataW H → Nat
  | .lit (.string bytes) => bytes.length + 1
  | .lit _ => 1
  | .nil => 1
  | .ptr d => uptoBulk d + 1
  | .slice elems spare => uptoBulkAll elems + uptoBulkAll spare + 1
  | .agg parts => uptoBulkAll parts + 1
  | .iface _ d => uptoBulk d + 1
  | .map entries => uptoBulkEntries entries + 1
  | .held _ => 1
def uptoBulkAll {H : Type} : List (DataW H) → Nat
  | [] => 0
  | d :: r => uptoBulk d + uptoBulkAll r
def uptoBulkEntries {H : Type} : List (Lit × DataW H) → Nat
  | [] => 0
  | x :: r => uptoBulkEntry x + uptoBulkEntries r
def uptoBulkEntry {H : Type} : Lit × DataW H → Nat
  | (.string bytes, d) => bytes.length + uptoBulk d + 1
  | (_, d) => uptoBulk d + 1
 end
def uptoSmall : (H : Type) → List (DataW H) → Bool := fun _ ds => decide (uptoBulkAll ds ≤ 1048576)
def OpenSpec.upto (s : _root_.Go.ChangeSpec) : _root_.Go.OpenSpec := { _root_.Go.OpenSpec.ofChange s with cond := some uptoSmall }

/-- 'almanackeep.SpanComposes', WHERE WHAT IT READS IS OF BULK AT MOST 1048576: true; the input reads as it did. -/
def spanComposesUptoRow : OpenClaim := { program := "ytpmppgmnnnlonaadoor", sum := "957d1b937b8a7b6bbd15c7806b45724441f476f6522f8c35e3359d13a581226d", func := "almanac/almanackeep.SpanComposes", spec := "spanComposes", inPlace := ["internal/reflectlite.ValueOf", "(internal/reflectlite.Value).Type", "(internal/reflectlite.Value).IsNil", "internal/reflectlite.TypeOf", "(internal/reflectlite.Value).Elem", "(internal/reflectlite.Value).Set"], unfollowed := true, recurses := true, named := ["errors.errorType"], apart := false, laid := [("errors.errorType", laid_errors_errorType)], narrowed := true }
def SpanComposesUptoSaid : Prop := spanComposesUptoRow.holds Tryd.pinned (OpenSpec.upto spanComposesSpec)

/-- 'almanaclaw.SpanWays', WHERE WHAT IT READS IS OF BULK AT MOST 1048576: true; the input reads as it did. -/
def spanWaysUptoRow : OpenClaim := { program := "ytpmppgmnnnlonaadoor", sum := "957d1b937b8a7b6bbd15c7806b45724441f476f6522f8c35e3359d13a581226d", func := "almanac/almanaclaw.SpanWays", spec := "spanWays", inPlace := ["internal/reflectlite.ValueOf", "(internal/reflectlite.Value).Type", "(internal/reflectlite.Value).IsNil", "internal/reflectlite.TypeOf", "(internal/reflectlite.Value).Elem", "(internal/reflectlite.Value).Set"], unfollowed := true, recurses := true, named := ["errors.errorType"], apart := false, laid := [("errors.errorType", laid_errors_errorType)], narrowed := true }
def SpanWaysUptoSaid : Prop := spanWaysUptoRow.holds Tryd.pinned (OpenSpec.upto spanWaysSpec)

/-- 'almanaclaw.SpanNets', WHERE WHAT IT READS IS OF BULK AT MOST 1048576: true; the input reads as it did. -/
def spanNetsUptoRow : OpenClaim := { program := "ytpmppgmnnnlonaadoor", sum := "957d1b937b8a7b6bbd15c7806b45724441f476f6522f8c35e3359d13a581226d", func := "almanac/almanaclaw.SpanNets", spec := "spanNets", inPlace := ["internal/reflectlite.ValueOf", "(internal/reflectlite.Value).Type", "(internal/reflectlite.Value).IsNil", "internal/reflectlite.TypeOf", "(internal/reflectlite.Value).Elem", "(internal/reflectlite.Value).Set"], unfollowed := true, recurses := true, named := ["errors.errorType"], apart := false, laid := [("errors.errorType", laid_errors_errorType)], narrowed := true }
def SpanNetsUptoSaid : Prop := spanNetsUptoRow.holds Tryd.pinned (OpenSpec.upto spanNetsSpec)

/-- 'almanaclaw.SpanSolves', WHERE WHAT IT READS IS OF BULK AT MOST 1048576: true; the input reads as it did. -/
def spanSolvesUptoRow : OpenClaim := { program := "ytpmppgmnnnlonaadoor", sum := "957d1b937b8a7b6bbd15c7806b45724441f476f6522f8c35e3359d13a581226d", func := "almanac/almanaclaw.SpanSolves", spec := "spanSolves", inPlace := ["internal/reflectlite.ValueOf", "(internal/reflectlite.Value).Type", "(internal/reflectlite.Value).IsNil", "internal/reflectlite.TypeOf", "(internal/reflectlite.Value).Elem", "(internal/reflectlite.Value).Set"], unfollowed := true, recurses := true, named := ["errors.errorType"], apart := false, laid := [("errors.errorType", laid_errors_errorType)], narrowed := true }
def SpanSolvesUptoSaid : Prop := spanSolvesUptoRow.holds Tryd.pinned (OpenSpec.upto spanSolvesSpec)

/-- 'almanackeep.SpanKeeps', WHERE WHAT IT READS IS OF BULK AT MOST 1048576: true; the input reads as it did. -/
def spanKeepsUptoRow : OpenClaim := { program := "ytpmppgmnnnlonaadoor", sum := "957d1b937b8a7b6bbd15c7806b45724441f476f6522f8c35e3359d13a581226d", func := "almanac/almanackeep.SpanKeeps", spec := "spanKeeps", inPlace := ["internal/reflectlite.ValueOf", "(internal/reflectlite.Value).Type", "(internal/reflectlite.Value).IsNil", "internal/reflectlite.TypeOf", "(internal/reflectlite.Value).Elem", "(internal/reflectlite.Value).Set"], unfollowed := true, recurses := true, named := ["errors.errorType"], apart := false, laid := [("errors.errorType", laid_errors_errorType)], narrowed := true }
def SpanKeepsUptoSaid : Prop := spanKeepsUptoRow.holds Tryd.pinned (OpenSpec.upto spanKeepsSpec)

end Rows
end Go.Proofs.YtpmppgmnnnlonaaDoor
