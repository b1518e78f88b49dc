/-
  NARROWER THAN 'FOR EVERY INPUT', by the rows' own cells (each row's printed sentence says how): WorkHolidays: laid · WorkTimes: laid · WorkSums: laid · WorkDays: laid · WorkCounts: laid.
  DERIVED. THE GIVEN ROWS OF THIS SEAT. 5 by the template 'for every input the law returns true; each argument reads behind the call as it read before'; 0 by the template 'total and deterministic' (their statements: YtbgcccfgcdkmdaaGreatDoorTotals.lean).
  GIVEN WITH THE SEED: the statements are not yours to turn. If you find one false, say at which input.
  Laid BY PROGRAM, IN A SANDBOX (cutbox-rows.mjs): the forced cells as the released guide's own fill.sh prints them over the translation 7c155b4188e69713… (all of the seat's roots in one cut). By AI agents, Wed Nov 11 2026. No macro, syntax, notation, axiom, sorry.
-/
import Derived.Test.YtbgcccfgcdkmdaaGreatDoorChecked
import GoSem.Claim
import GoSem.ClaimJoined
import GoSem.ClaimMapViews
import Derived.JoinedTies
import Derived.KernelRfl
namespace Go.Proofs.YtbgcccfgcdkmdaaGreatDoor
/- THE CELL 'sum', in the pinned program and in every row, IS THE sha256 OF THE DUMP (.gsa) THAT YtbgcccfgcdkmdaaGreatDoorProg.lean LOADS. Nothing in Lean hashes anything: it is a label: what it is worth is what the hold of that sum in a sandbox is worth. -/
noncomputable def Tryz.pinned : Pinned := { name := "ytbgcccfgcdkmdaagreatdoor", sum := "7c155b4188e697130652ea284d920fa27de402c0352382e89e7154b1e7b92787", checked := Tryz.checked }
namespace Rows
def none {H : Type} : Left H := { results := [], args := [] }

/- WHAT THE LISTED PACKAGE-LEVEL VARIABLES READ AS WHEN THE CALL BEGINS. Each datum BY PROGRAM (the guide's laid-datum.mjs) off the statement by which the dump's own 'gosem.cut.vars' lays the variable. In a bare row this is a premise. The card (YtbgcccfgcdkmdaaGreatDoorCards.lean) ties it to the program's text. -/
def laid_errors_errorType {H : Type} : DataW H := .iface "internal/reflectlite.rtype" (.agg [.ptr (.lit (.string [101, 114, 114, 111, 114]))])
def laid_almanac_days_roman {H : Type} : DataW H := .agg [.lit (.int .i64 31), .lit (.int .i64 28), .lit (.int .i64 31), .lit (.int .i64 30), .lit (.int .i64 31), .lit (.int .i64 30), .lit (.int .i64 31), .lit (.int .i64 31), .lit (.int .i64 30), .lit (.int .i64 31), .lit (.int .i64 30), .lit (.int .i64 31)]

/-- 'almanaclaw.WorkHolidays': WHATEVER THE INPUT: true; the input reads as it did. -/
def workHolidaysSpec : ChangeSpec := { name := "workHolidays", fn := fun _ => fun
  | [d1, d2] => { results := [.lit (.bool true)], args := [d1, d2] }
  | _ => none }
def workHolidaysRow : OpenClaim := { program := "ytbgcccfgcdkmdaagreatdoor", sum := "7c155b4188e697130652ea284d920fa27de402c0352382e89e7154b1e7b92787", func := "almanac/almanaclaw.WorkHolidays", spec := "workHolidays", inPlace := ["internal/reflectlite.ValueOf", "(internal/reflectlite.Value).Type", "(internal/reflectlite.Value).IsNil", "internal/reflectlite.TypeOf", "(internal/reflectlite.Value).Elem", "(internal/reflectlite.Value).Set"], unfollowed := true, recurses := true, named := ["almanac/days.roman", "errors.errorType"], apart := false, laid := [("errors.errorType", laid_errors_errorType), ("almanac/days.roman", laid_almanac_days_roman)] }
def WorkHolidaysSaid : Prop := workHolidaysRow.holds Tryz.pinned (OpenSpec.ofChange workHolidaysSpec)

/-- ITS FALSE NEIGHBOUR: 'it returns false'. Refute it at one input. -/
def workHolidaysWrong : ChangeSpec := { name := "workHolidays", fn := fun _ => fun
  | [d1, d2] => { results := [.lit (.bool false)], args := [d1, d2] }
  | _ => none }
def WorkHolidaysWrongFalsely : Prop := workHolidaysRow.holds Tryz.pinned (OpenSpec.ofChange workHolidaysWrong)

/-- 'almanaclaw.WorkTimes': WHATEVER THE INPUT: true; the input reads as it did. -/
def workTimesSpec : ChangeSpec := { name := "workTimes", fn := fun _ => fun
  | [d1, d2, d3, d4] => { results := [.lit (.bool true)], args := [d1, d2, d3, d4] }
  | _ => none }
def workTimesRow : OpenClaim := { program := "ytbgcccfgcdkmdaagreatdoor", sum := "7c155b4188e697130652ea284d920fa27de402c0352382e89e7154b1e7b92787", func := "almanac/almanaclaw.WorkTimes", spec := "workTimes", inPlace := ["internal/reflectlite.ValueOf", "(internal/reflectlite.Value).Type", "(internal/reflectlite.Value).IsNil", "internal/reflectlite.TypeOf", "(internal/reflectlite.Value).Elem", "(internal/reflectlite.Value).Set"], unfollowed := true, recurses := true, named := ["almanac/days.roman", "errors.errorType"], apart := false, laid := [("errors.errorType", laid_errors_errorType), ("almanac/days.roman", laid_almanac_days_roman)] }
def WorkTimesSaid : Prop := workTimesRow.holds Tryz.pinned (OpenSpec.ofChange workTimesSpec)

/-- ITS FALSE NEIGHBOUR: 'it returns false'. Refute it at one input. -/
def workTimesWrong : ChangeSpec := { name := "workTimes", fn := fun _ => fun
  | [d1, d2, d3, d4] => { results := [.lit (.bool false)], args := [d1, d2, d3, d4] }
  | _ => none }
def WorkTimesWrongFalsely : Prop := workTimesRow.holds Tryz.pinned (OpenSpec.ofChange workTimesWrong)

/-- 'almanackeep.WorkSums': WHATEVER THE INPUT: true; the input reads as it did. -/
def workSumsSpec : ChangeSpec := { name := "workSums", fn := fun _ => fun
  | [d1, d2, d3, d4, d5] => { results := [.lit (.bool true)], args := [d1, d2, d3, d4, d5] }
  | _ => none }
def workSumsRow : OpenClaim := { program := "ytbgcccfgcdkmdaagreatdoor", sum := "7c155b4188e697130652ea284d920fa27de402c0352382e89e7154b1e7b92787", func := "almanac/almanackeep.WorkSums", spec := "workSums", inPlace := ["internal/reflectlite.ValueOf", "(internal/reflectlite.Value).Type", "(internal/reflectlite.Value).IsNil", "internal/reflectlite.TypeOf", "(internal/reflectlite.Value).Elem", "(internal/reflectlite.Value).Set"], unfollowed := true, recurses := true, named := ["almanac/days.roman", "errors.errorType"], apart := false, laid := [("errors.errorType", laid_errors_errorType), ("almanac/days.roman", laid_almanac_days_roman)] }
def WorkSumsSaid : Prop := workSumsRow.holds Tryz.pinned (OpenSpec.ofChange workSumsSpec)

/-- ITS FALSE NEIGHBOUR: 'it returns false'. Refute it at one input. -/
def workSumsWrong : ChangeSpec := { name := "workSums", fn := fun _ => fun
  | [d1, d2, d3, d4, d5] => { results := [.lit (.bool false)], args := [d1, d2, d3, d4, d5] }
  | _ => none }
def WorkSumsWrongFalsely : Prop := workSumsRow.holds Tryz.pinned (OpenSpec.ofChange workSumsWrong)

/-- 'almanaclaw.WorkDays': WHATEVER THE INPUT: true; the input reads as it did. -/
def workDaysSpec : ChangeSpec := { name := "workDays", fn := fun _ => fun
  | [d1, d2, d3, d4] => { results := [.lit (.bool true)], args := [d1, d2, d3, d4] }
  | _ => none }
def workDaysRow : OpenClaim := { program := "ytbgcccfgcdkmdaagreatdoor", sum := "7c155b4188e697130652ea284d920fa27de402c0352382e89e7154b1e7b92787", func := "almanac/almanaclaw.WorkDays", spec := "workDays", inPlace := ["internal/reflectlite.ValueOf", "(internal/reflectlite.Value).Type", "(internal/reflectlite.Value).IsNil", "internal/reflectlite.TypeOf", "(internal/reflectlite.Value).Elem", "(internal/reflectlite.Value).Set"], unfollowed := true, recurses := true, named := ["almanac/days.roman", "errors.errorType"], apart := false, laid := [("errors.errorType", laid_errors_errorType), ("almanac/days.roman", laid_almanac_days_roman)] }
def WorkDaysSaid : Prop := workDaysRow.holds Tryz.pinned (OpenSpec.ofChange workDaysSpec)

/-- ITS FALSE NEIGHBOUR: 'it returns false'. Refute it at one input. -/
def workDaysWrong : ChangeSpec := { name := "workDays", fn := fun _ => fun
  | [d1, d2, d3, d4] => { results := [.lit (.bool false)], args := [d1, d2, d3, d4] }
  | _ => none }
def WorkDaysWrongFalsely : Prop := workDaysRow.holds Tryz.pinned (OpenSpec.ofChange workDaysWrong)

/-- 'almanackeep.WorkCounts': WHATEVER THE INPUT: true; the input reads as it did. -/
def workCountsSpec : ChangeSpec := { name := "workCounts", fn := fun _ => fun
  | [d1, d2, d3] => { results := [.lit (.bool true)], args := [d1, d2, d3] }
  | _ => none }
def workCountsRow : OpenClaim := { program := "ytbgcccfgcdkmdaagreatdoor", sum := "7c155b4188e697130652ea284d920fa27de402c0352382e89e7154b1e7b92787", func := "almanac/almanackeep.WorkCounts", spec := "workCounts", inPlace := ["internal/reflectlite.ValueOf", "(internal/reflectlite.Value).Type", "(internal/reflectlite.Value).IsNil", "internal/reflectlite.TypeOf", "(internal/reflectlite.Value).Elem", "(internal/reflectlite.Value).Set"], unfollowed := true, recurses := true, named := ["almanac/days.roman", "errors.errorType"], apart := false, laid := [("errors.errorType", laid_errors_errorType), ("almanac/days.roman", laid_almanac_days_roman)] }
def WorkCountsSaid : Prop := workCountsRow.holds Tryz.pinned (OpenSpec.ofChange workCountsSpec)

/-- ITS FALSE NEIGHBOUR: 'it returns false'. Refute it at one input. -/
def workCountsWrong : ChangeSpec := { name := "workCounts", fn := fun _ => fun
  | [d1, d2, d3] => { results := [.lit (.bool false)], args := [d1, d2, d3] }
  | _ => none }
def WorkCountsWrongFalsely : Prop := workCountsRow.holds Tryz.pinned (OpenSpec.ofChange workCountsWrong)

/- THE SECOND FORM. 'bulk': how many values and letters a reading holds, each counted each time it is reached (what is shared counts as often as it is met; a slice's spare places count too). A statement '..UptoSaid' is the law's where the arguments, and the package variables that the reading takes, are together of bulk at most 1048576: NARROWER than '..Said'. Prove '..Said' where nothing that the law and all that it calls make is longer than what came in: it says more and counts as full. Else prove '..UptoSaid'. A law counts once. -/
mutual
def uptoBulk {H : Type} : DataW H → Nat
  | .lit (.string bytes) => bytes.length + 1
  | .lit _ => 1
  | .nil => 1
  | .ptr d => uptoBulk d + 1
  | .slice elems spare => uptoBulkAll elems + uptoBulkAll spare + 1
  | .agg parts => uptoBulkAll parts + 1
  | .iface _ d => uptoBulk d + 1
  | .map entries => uptoBulkEntries entries + 1
  | .held _ => 1
def uptoBulkAll {H : Type} : List (DataW H) → Nat
  | [] => 0
  | d :: r => uptoBulk d + uptoBulkAll r
def uptoBulkEntries {H : Type} : List (Lit × DataW H) → Nat
  | [] => 0
  | x :: r => uptoBulkEntry x + uptoBulkEntries r
def uptoBulkEntry {H : Type} : Lit × DataW H → Nat
  | (.string bytes, d) => bytes.length + uptoBulk d + 1
  | (_, d) => uptoBulk d + 1
 end
def uptoSmall : (H : Type) → List (DataW H) → Bool := fun _ ds => decide (uptoBulkAll ds ≤ 1048576)
def OpenSpec.upto (s : _root_.Go.ChangeSpec) : _root_.Go.OpenSpec := { _root_.Go.OpenSpec.ofChange s with cond := some uptoSmall }

/-- 'almanaclaw.WorkHolidays', WHERE WHAT IT READS IS OF BULK AT MOST 1048576: true; the input reads as it did. -/
def workHolidaysUptoRow : OpenClaim := { program := "ytbgcccfgcdkmdaagreatdoor", sum := "7c155b4188e697130652ea284d920fa27de402c0352382e89e7154b1e7b92787", func := "almanac/almanaclaw.WorkHolidays", spec := "workHolidays", inPlace := ["internal/reflectlite.ValueOf", "(internal/reflectlite.Value).Type", "(internal/reflectlite.Value).IsNil", "internal/reflectlite.TypeOf", "(internal/reflectlite.Value).Elem", "(internal/reflectlite.Value).Set"], unfollowed := true, recurses := true, named := ["almanac/days.roman", "errors.errorType"], apart := false, laid := [("errors.errorType", laid_errors_errorType), ("almanac/days.roman", laid_almanac_days_roman)], narrowed := true }
def WorkHolidaysUptoSaid : Prop := workHolidaysUptoRow.holds Tryz.pinned (OpenSpec.upto workHolidaysSpec)

/-- 'almanaclaw.WorkTimes', WHERE WHAT IT READS IS OF BULK AT MOST 1048576: true; the input reads as it did. -/
def workTimesUptoRow : OpenClaim := { program := "ytbgcccfgcdkmdaagreatdoor", sum := "7c155b4188e697130652ea284d920fa27de402c0352382e89e7154b1e7b92787", func := "almanac/almanaclaw.WorkTimes", spec := "workTimes", inPlace := ["internal/reflectlite.ValueOf", "(internal/reflectlite.Value).Type", "(internal/reflectlite.Value).IsNil", "internal/reflectlite.TypeOf", "(internal/reflectlite.Value).Elem", "(internal/reflectlite.Value).Set"], unfollowed := true, recurses := true, named := ["almanac/days.roman", "errors.errorType"], apart := false, laid := [("errors.errorType", laid_errors_errorType), ("almanac/days.roman", laid_almanac_days_roman)], narrowed := true }
def WorkTimesUptoSaid : Prop := workTimesUptoRow.holds Tryz.pinned (OpenSpec.upto workTimesSpec)

/-- 'almanackeep.WorkSums', WHERE WHAT IT READS IS OF BULK AT MOST 1048576: true; the input reads as it did. -/
def workSumsUptoRow : OpenClaim := { program := "ytbgcccfgcdkmdaagreatdoor", sum := "7c155b4188e697130652ea284d920fa27de402c0352382e89e7154b1e7b92787", func := "almanac/almanackeep.WorkSums", spec := "workSums", inPlace := ["internal/reflectlite.ValueOf", "(internal/reflectlite.Value).Type", "(internal/reflectlite.Value).IsNil", "internal/reflectlite.TypeOf", "(internal/reflectlite.Value).Elem", "(internal/reflectlite.Value).Set"], unfollowed := true, recurses := true, named := ["almanac/days.roman", "errors.errorType"], apart := false, laid := [("errors.errorType", laid_errors_errorType), ("almanac/days.roman", laid_almanac_days_roman)], narrowed := true }
def WorkSumsUptoSaid : Prop := workSumsUptoRow.holds Tryz.pinned (OpenSpec.upto workSumsSpec)

/-- 'almanaclaw.WorkDays', WHERE WHAT IT READS IS OF BULK AT MOST 1048576: true; the input reads as it did. -/
def workDaysUptoRow : OpenClaim := { program := "ytbgcccfgcdkmdaagreatdoor", sum := "7c155b4188e697130652ea284d920fa27de402c0352382e89e7154b1e7b92787", func := "almanac/almanaclaw.WorkDays", spec := "workDays", inPlace := ["internal/reflectlite.ValueOf", "(internal/reflectlite.Value).Type", "(internal/reflectlite.Value).IsNil", "internal/reflectlite.TypeOf", "(internal/reflectlite.Value).Elem", "(internal/reflectlite.Value).Set"], unfollowed := true, recurses := true, named := ["almanac/days.roman", "errors.errorType"], apart := false, laid := [("errors.errorType", laid_errors_errorType), ("almanac/days.roman", laid_almanac_days_roman)], narrowed := true }
def WorkDaysUptoSaid : Prop := workDaysUptoRow.holds Tryz.pinned (OpenSpec.upto workDaysSpec)

/-- 'almanackeep.WorkCounts', WHERE WHAT IT READS IS OF BULK AT MOST 1048576: true; the input reads as it did. -/
def workCountsUptoRow : OpenClaim := { program := "ytbgcccfgcdkmdaagreatdoor", sum := "7c155b4188e697130652ea284d920fa27de402c0352382e89e7154b1e7b92787", func := "almanac/almanackeep.WorkCounts", spec := "workCounts", inPlace := ["internal/reflectlite.ValueOf", "(internal/reflectlite.Value).Type", "(internal/reflectlite.Value).IsNil", "internal/reflectlite.TypeOf", "(internal/reflectlite.Value).Elem", "(internal/reflectlite.Value).Set"], unfollowed := true, recurses := true, named := ["almanac/days.roman", "errors.errorType"], apart := false, laid := [("errors.errorType", laid_errors_errorType), ("almanac/days.roman", laid_almanac_days_roman)], narrowed := true }
def WorkCountsUptoSaid : Prop := workCountsUptoRow.holds Tryz.pinned (OpenSpec.upto workCountsSpec)

end Rows
end Go.Proofs.YtbgcccfgcdkmdaaGreatDoor
