/-
  NARROWER THAN 'FOR EVERY INPUT', by the rows' own cells (each row's printed sentence says how): DaysMaya: laid · DaysRound: laid · DaysOf: laid · DaysDates: laid · DaysLeaps: laid · DaysEasters: laid · DaysKeep: laid · DaysWeeks: laid · DaysWeek: laid · DaysMeet: laid · DaysEaster: laid.
  DERIVED. THE GIVEN ROWS OF THIS SEAT. 11 by the template 'for every input the law returns true; each argument reads behind the call as it read before'; 0 by the template 'total and deterministic' (their statements: YtajnpdaljocnnaaDoorTotals.lean).
  GIVEN WITH THE SEED: the statements are not yours to turn. If you find one false, say at which input.
  Laid BY PROGRAM, IN A SANDBOX (cutbox-rows.mjs): the forced cells as the released guide's own fill.sh prints them over the translation bde750efa1e49fb1… (all of the seat's roots in one cut). By AI agents, Wed Nov 11 2026. No macro, syntax, notation, axiom, sorry.
-/
import Derived.Test.YtajnpdaljocnnaaDoorChecked
import GoSem.Claim
import GoSem.ClaimJoined
import GoSem.ClaimMapViews
import Derived.JoinedTies
import Derived.KernelRfl
namespace Go.Proofs.YtajnpdaljocnnaaDoor
/- THE CELL 'sum', in the pinned program and in every row, IS THE sha256 OF THE DUMP (.gsa) THAT YtajnpdaljocnnaaDoorProg.lean LOADS. Nothing in Lean hashes anything: it is a label: what it is worth is what the hold of that sum in a sandbox is worth. -/
noncomputable def Tryd.pinned : Pinned := { name := "ytajnpdaljocnnaadoor", sum := "bde750efa1e49fb11fda33eb2a14dbd5d16d5132dbe3a4fbff24feaf32e8f397", checked := Tryd.checked }
namespace Rows
def none {H : Type} : Left H := { results := [], args := [] }

/- WHAT THE LISTED PACKAGE-LEVEL VARIABLES READ AS WHEN THE CALL BEGINS. Each datum BY PROGRAM (the guide's laid-datum.mjs) off the statement by which the dump's own 'gosem.cut.vars' lays the variable. In a bare row this is a premise. The card (YtajnpdaljocnnaaDoorCards.lean) ties it to the program's text. -/
def laid_errors_errorType {H : Type} : DataW H := .iface "internal/reflectlite.rtype" (.agg [.ptr (.lit (.string [101, 114, 114, 111, 114]))])
def laid_almanac_days_roman {H : Type} : DataW H := .agg [.lit (.int .i64 31), .lit (.int .i64 28), .lit (.int .i64 31), .lit (.int .i64 30), .lit (.int .i64 31), .lit (.int .i64 30), .lit (.int .i64 31), .lit (.int .i64 31), .lit (.int .i64 30), .lit (.int .i64 31), .lit (.int .i64 30), .lit (.int .i64 31)]

/-- 'almanaclaw.DaysMaya': WHATEVER THE INPUT: true; the input reads as it did. -/
def daysMayaSpec : ChangeSpec := { name := "daysMaya", fn := fun _ => fun
  | [d1, d2, d3, d4] => { results := [.lit (.bool true)], args := [d1, d2, d3, d4] }
  | _ => none }
def daysMayaRow : OpenClaim := { program := "ytajnpdaljocnnaadoor", sum := "bde750efa1e49fb11fda33eb2a14dbd5d16d5132dbe3a4fbff24feaf32e8f397", func := "almanac/almanaclaw.DaysMaya", spec := "daysMaya", inPlace := ["internal/reflectlite.ValueOf", "(internal/reflectlite.Value).Type", "(internal/reflectlite.Value).IsNil", "internal/reflectlite.TypeOf", "(internal/reflectlite.Value).Elem", "(internal/reflectlite.Value).Set"], unfollowed := true, recurses := true, named := ["errors.errorType"], apart := false, laid := [("errors.errorType", laid_errors_errorType)] }
def DaysMayaSaid : Prop := daysMayaRow.holds Tryd.pinned (OpenSpec.ofChange daysMayaSpec)

/-- ITS FALSE NEIGHBOUR: 'it returns false'. Refute it at one input. -/
def daysMayaWrong : ChangeSpec := { name := "daysMaya", fn := fun _ => fun
  | [d1, d2, d3, d4] => { results := [.lit (.bool false)], args := [d1, d2, d3, d4] }
  | _ => none }
def DaysMayaWrongFalsely : Prop := daysMayaRow.holds Tryd.pinned (OpenSpec.ofChange daysMayaWrong)

/-- 'almanackeep.DaysRound': WHATEVER THE INPUT: true; the input reads as it did. -/
def daysRoundSpec : ChangeSpec := { name := "daysRound", fn := fun _ => fun
  | [d] => { results := [.lit (.bool true)], args := [d] }
  | _ => none }
def daysRoundRow : OpenClaim := { program := "ytajnpdaljocnnaadoor", sum := "bde750efa1e49fb11fda33eb2a14dbd5d16d5132dbe3a4fbff24feaf32e8f397", func := "almanac/almanackeep.DaysRound", spec := "daysRound", inPlace := ["internal/reflectlite.ValueOf", "(internal/reflectlite.Value).Type", "(internal/reflectlite.Value).IsNil", "internal/reflectlite.TypeOf", "(internal/reflectlite.Value).Elem", "(internal/reflectlite.Value).Set"], unfollowed := true, recurses := true, named := ["errors.errorType"], apart := false, laid := [("errors.errorType", laid_errors_errorType)] }
def DaysRoundSaid : Prop := daysRoundRow.holds Tryd.pinned (OpenSpec.ofChange daysRoundSpec)

/-- ITS FALSE NEIGHBOUR: 'it returns false'. Refute it at one input. -/
def daysRoundWrong : ChangeSpec := { name := "daysRound", fn := fun _ => fun
  | [d] => { results := [.lit (.bool false)], args := [d] }
  | _ => none }
def DaysRoundWrongFalsely : Prop := daysRoundRow.holds Tryd.pinned (OpenSpec.ofChange daysRoundWrong)

/-- 'almanaclaw.DaysOf': WHATEVER THE INPUT: true; the input reads as it did. -/
def daysOfSpec : ChangeSpec := { name := "daysOf", fn := fun _ => fun
  | [d1, d2] => { results := [.lit (.bool true)], args := [d1, d2] }
  | _ => none }
def daysOfRow : OpenClaim := { program := "ytajnpdaljocnnaadoor", sum := "bde750efa1e49fb11fda33eb2a14dbd5d16d5132dbe3a4fbff24feaf32e8f397", func := "almanac/almanaclaw.DaysOf", spec := "daysOf", inPlace := ["internal/reflectlite.ValueOf", "(internal/reflectlite.Value).Type", "(internal/reflectlite.Value).IsNil", "internal/reflectlite.TypeOf", "(internal/reflectlite.Value).Elem", "(internal/reflectlite.Value).Set"], unfollowed := true, recurses := true, named := ["almanac/days.roman", "errors.errorType"], apart := false, laid := [("errors.errorType", laid_errors_errorType), ("almanac/days.roman", laid_almanac_days_roman)] }
def DaysOfSaid : Prop := daysOfRow.holds Tryd.pinned (OpenSpec.ofChange daysOfSpec)

/-- ITS FALSE NEIGHBOUR: 'it returns false'. Refute it at one input. -/
def daysOfWrong : ChangeSpec := { name := "daysOf", fn := fun _ => fun
  | [d1, d2] => { results := [.lit (.bool false)], args := [d1, d2] }
  | _ => none }
def DaysOfWrongFalsely : Prop := daysOfRow.holds Tryd.pinned (OpenSpec.ofChange daysOfWrong)

/-- 'almanaclaw.DaysDates': WHATEVER THE INPUT: true; the input reads as it did. -/
def daysDatesSpec : ChangeSpec := { name := "daysDates", fn := fun _ => fun
  | [d] => { results := [.lit (.bool true)], args := [d] }
  | _ => none }
def daysDatesRow : OpenClaim := { program := "ytajnpdaljocnnaadoor", sum := "bde750efa1e49fb11fda33eb2a14dbd5d16d5132dbe3a4fbff24feaf32e8f397", func := "almanac/almanaclaw.DaysDates", spec := "daysDates", inPlace := ["internal/reflectlite.ValueOf", "(internal/reflectlite.Value).Type", "(internal/reflectlite.Value).IsNil", "internal/reflectlite.TypeOf", "(internal/reflectlite.Value).Elem", "(internal/reflectlite.Value).Set"], unfollowed := true, recurses := true, named := ["almanac/days.roman", "errors.errorType"], apart := false, laid := [("errors.errorType", laid_errors_errorType), ("almanac/days.roman", laid_almanac_days_roman)] }
def DaysDatesSaid : Prop := daysDatesRow.holds Tryd.pinned (OpenSpec.ofChange daysDatesSpec)

/-- ITS FALSE NEIGHBOUR: 'it returns false'. Refute it at one input. -/
def daysDatesWrong : ChangeSpec := { name := "daysDates", fn := fun _ => fun
  | [d] => { results := [.lit (.bool false)], args := [d] }
  | _ => none }
def DaysDatesWrongFalsely : Prop := daysDatesRow.holds Tryd.pinned (OpenSpec.ofChange daysDatesWrong)

/-- 'almanaclaw.DaysLeaps': WHATEVER THE INPUT: true; the input reads as it did. -/
def daysLeapsSpec : ChangeSpec := { name := "daysLeaps", fn := fun _ => fun
  | [d1, d2, d3] => { results := [.lit (.bool true)], args := [d1, d2, d3] }
  | _ => none }
def daysLeapsRow : OpenClaim := { program := "ytajnpdaljocnnaadoor", sum := "bde750efa1e49fb11fda33eb2a14dbd5d16d5132dbe3a4fbff24feaf32e8f397", func := "almanac/almanaclaw.DaysLeaps", spec := "daysLeaps", inPlace := ["internal/reflectlite.ValueOf", "(internal/reflectlite.Value).Type", "(internal/reflectlite.Value).IsNil", "internal/reflectlite.TypeOf", "(internal/reflectlite.Value).Elem", "(internal/reflectlite.Value).Set"], unfollowed := true, recurses := true, named := ["almanac/days.roman", "errors.errorType"], apart := false, laid := [("errors.errorType", laid_errors_errorType), ("almanac/days.roman", laid_almanac_days_roman)] }
def DaysLeapsSaid : Prop := daysLeapsRow.holds Tryd.pinned (OpenSpec.ofChange daysLeapsSpec)

/-- ITS FALSE NEIGHBOUR: 'it returns false'. Refute it at one input. -/
def daysLeapsWrong : ChangeSpec := { name := "daysLeaps", fn := fun _ => fun
  | [d1, d2, d3] => { results := [.lit (.bool false)], args := [d1, d2, d3] }
  | _ => none }
def DaysLeapsWrongFalsely : Prop := daysLeapsRow.holds Tryd.pinned (OpenSpec.ofChange daysLeapsWrong)

/-- 'almanaclaw.DaysEasters': WHATEVER THE INPUT: true; the input reads as it did. -/
def daysEastersSpec : ChangeSpec := { name := "daysEasters", fn := fun _ => fun
  | [d1, d2] => { results := [.lit (.bool true)], args := [d1, d2] }
  | _ => none }
def daysEastersRow : OpenClaim := { program := "ytajnpdaljocnnaadoor", sum := "bde750efa1e49fb11fda33eb2a14dbd5d16d5132dbe3a4fbff24feaf32e8f397", func := "almanac/almanaclaw.DaysEasters", spec := "daysEasters", inPlace := ["internal/reflectlite.ValueOf", "(internal/reflectlite.Value).Type", "(internal/reflectlite.Value).IsNil", "internal/reflectlite.TypeOf", "(internal/reflectlite.Value).Elem", "(internal/reflectlite.Value).Set"], unfollowed := true, recurses := true, named := ["almanac/days.roman", "errors.errorType"], apart := false, laid := [("errors.errorType", laid_errors_errorType), ("almanac/days.roman", laid_almanac_days_roman)] }
def DaysEastersSaid : Prop := daysEastersRow.holds Tryd.pinned (OpenSpec.ofChange daysEastersSpec)

/-- ITS FALSE NEIGHBOUR: 'it returns false'. Refute it at one input. -/
def daysEastersWrong : ChangeSpec := { name := "daysEasters", fn := fun _ => fun
  | [d1, d2] => { results := [.lit (.bool false)], args := [d1, d2] }
  | _ => none }
def DaysEastersWrongFalsely : Prop := daysEastersRow.holds Tryd.pinned (OpenSpec.ofChange daysEastersWrong)

/-- 'almanackeep.DaysKeep': WHATEVER THE INPUT: true; the input reads as it did. -/
def daysKeepSpec : ChangeSpec := { name := "daysKeep", fn := fun _ => fun
  | [d] => { results := [.lit (.bool true)], args := [d] }
  | _ => none }
def daysKeepRow : OpenClaim := { program := "ytajnpdaljocnnaadoor", sum := "bde750efa1e49fb11fda33eb2a14dbd5d16d5132dbe3a4fbff24feaf32e8f397", func := "almanac/almanackeep.DaysKeep", spec := "daysKeep", inPlace := ["internal/reflectlite.ValueOf", "(internal/reflectlite.Value).Type", "(internal/reflectlite.Value).IsNil", "internal/reflectlite.TypeOf", "(internal/reflectlite.Value).Elem", "(internal/reflectlite.Value).Set"], unfollowed := true, recurses := true, named := ["almanac/days.roman", "errors.errorType"], apart := false, laid := [("errors.errorType", laid_errors_errorType), ("almanac/days.roman", laid_almanac_days_roman)] }
def DaysKeepSaid : Prop := daysKeepRow.holds Tryd.pinned (OpenSpec.ofChange daysKeepSpec)

/-- ITS FALSE NEIGHBOUR: 'it returns false'. Refute it at one input. -/
def daysKeepWrong : ChangeSpec := { name := "daysKeep", fn := fun _ => fun
  | [d] => { results := [.lit (.bool false)], args := [d] }
  | _ => none }
def DaysKeepWrongFalsely : Prop := daysKeepRow.holds Tryd.pinned (OpenSpec.ofChange daysKeepWrong)

/-- 'almanaclaw.DaysWeeks': WHATEVER THE INPUT: true; the input reads as it did. -/
def daysWeeksSpec : ChangeSpec := { name := "daysWeeks", fn := fun _ => fun
  | [d1, d2, d3, d4] => { results := [.lit (.bool true)], args := [d1, d2, d3, d4] }
  | _ => none }
def daysWeeksRow : OpenClaim := { program := "ytajnpdaljocnnaadoor", sum := "bde750efa1e49fb11fda33eb2a14dbd5d16d5132dbe3a4fbff24feaf32e8f397", func := "almanac/almanaclaw.DaysWeeks", spec := "daysWeeks", inPlace := ["internal/reflectlite.ValueOf", "(internal/reflectlite.Value).Type", "(internal/reflectlite.Value).IsNil", "internal/reflectlite.TypeOf", "(internal/reflectlite.Value).Elem", "(internal/reflectlite.Value).Set"], unfollowed := true, recurses := true, named := ["almanac/days.roman", "errors.errorType"], apart := false, laid := [("errors.errorType", laid_errors_errorType), ("almanac/days.roman", laid_almanac_days_roman)] }
def DaysWeeksSaid : Prop := daysWeeksRow.holds Tryd.pinned (OpenSpec.ofChange daysWeeksSpec)

/-- ITS FALSE NEIGHBOUR: 'it returns false'. Refute it at one input. -/
def daysWeeksWrong : ChangeSpec := { name := "daysWeeks", fn := fun _ => fun
  | [d1, d2, d3, d4] => { results := [.lit (.bool false)], args := [d1, d2, d3, d4] }
  | _ => none }
def DaysWeeksWrongFalsely : Prop := daysWeeksRow.holds Tryd.pinned (OpenSpec.ofChange daysWeeksWrong)

/-- 'almanackeep.DaysWeek': WHATEVER THE INPUT: true; the input reads as it did. -/
def daysWeekSpec : ChangeSpec := { name := "daysWeek", fn := fun _ => fun
  | [d] => { results := [.lit (.bool true)], args := [d] }
  | _ => none }
def daysWeekRow : OpenClaim := { program := "ytajnpdaljocnnaadoor", sum := "bde750efa1e49fb11fda33eb2a14dbd5d16d5132dbe3a4fbff24feaf32e8f397", func := "almanac/almanackeep.DaysWeek", spec := "daysWeek", inPlace := ["internal/reflectlite.ValueOf", "(internal/reflectlite.Value).Type", "(internal/reflectlite.Value).IsNil", "internal/reflectlite.TypeOf", "(internal/reflectlite.Value).Elem", "(internal/reflectlite.Value).Set"], unfollowed := true, recurses := true, named := ["almanac/days.roman", "errors.errorType"], apart := false, laid := [("errors.errorType", laid_errors_errorType), ("almanac/days.roman", laid_almanac_days_roman)] }
def DaysWeekSaid : Prop := daysWeekRow.holds Tryd.pinned (OpenSpec.ofChange daysWeekSpec)

/-- ITS FALSE NEIGHBOUR: 'it returns false'. Refute it at one input. -/
def daysWeekWrong : ChangeSpec := { name := "daysWeek", fn := fun _ => fun
  | [d] => { results := [.lit (.bool false)], args := [d] }
  | _ => none }
def DaysWeekWrongFalsely : Prop := daysWeekRow.holds Tryd.pinned (OpenSpec.ofChange daysWeekWrong)

/-- 'almanackeep.DaysMeet': WHATEVER THE INPUT: true; the input reads as it did. -/
def daysMeetSpec : ChangeSpec := { name := "daysMeet", fn := fun _ => fun
  | [d1, d2] => { results := [.lit (.bool true)], args := [d1, d2] }
  | _ => none }
def daysMeetRow : OpenClaim := { program := "ytajnpdaljocnnaadoor", sum := "bde750efa1e49fb11fda33eb2a14dbd5d16d5132dbe3a4fbff24feaf32e8f397", func := "almanac/almanackeep.DaysMeet", spec := "daysMeet", inPlace := ["internal/reflectlite.ValueOf", "(internal/reflectlite.Value).Type", "(internal/reflectlite.Value).IsNil", "internal/reflectlite.TypeOf", "(internal/reflectlite.Value).Elem", "(internal/reflectlite.Value).Set"], unfollowed := true, recurses := true, named := ["almanac/days.roman", "errors.errorType"], apart := false, laid := [("errors.errorType", laid_errors_errorType), ("almanac/days.roman", laid_almanac_days_roman)] }
def DaysMeetSaid : Prop := daysMeetRow.holds Tryd.pinned (OpenSpec.ofChange daysMeetSpec)

/-- ITS FALSE NEIGHBOUR: 'it returns false'. Refute it at one input. -/
def daysMeetWrong : ChangeSpec := { name := "daysMeet", fn := fun _ => fun
  | [d1, d2] => { results := [.lit (.bool false)], args := [d1, d2] }
  | _ => none }
def DaysMeetWrongFalsely : Prop := daysMeetRow.holds Tryd.pinned (OpenSpec.ofChange daysMeetWrong)

/-- 'almanackeep.DaysEaster': WHATEVER THE INPUT: true; the input reads as it did. -/
def daysEasterSpec : ChangeSpec := { name := "daysEaster", fn := fun _ => fun
  | [d1, d2] => { results := [.lit (.bool true)], args := [d1, d2] }
  | _ => none }
def daysEasterRow : OpenClaim := { program := "ytajnpdaljocnnaadoor", sum := "bde750efa1e49fb11fda33eb2a14dbd5d16d5132dbe3a4fbff24feaf32e8f397", func := "almanac/almanackeep.DaysEaster", spec := "daysEaster", inPlace := ["internal/reflectlite.ValueOf", "(internal/reflectlite.Value).Type", "(internal/reflectlite.Value).IsNil", "internal/reflectlite.TypeOf", "(internal/reflectlite.Value).Elem", "(internal/reflectlite.Value).Set"], unfollowed := true, recurses := true, named := ["almanac/days.roman", "errors.errorType"], apart := false, laid := [("errors.errorType", laid_errors_errorType), ("almanac/days.roman", laid_almanac_days_roman)] }
def DaysEasterSaid : Prop := daysEasterRow.holds Tryd.pinned (OpenSpec.ofChange daysEasterSpec)

/-- ITS FALSE NEIGHBOUR: 'it returns false'. Refute it at one input. -/
def daysEasterWrong : ChangeSpec := { name := "daysEaster", fn := fun _ => fun
  | [d1, d2] => { results := [.lit (.bool false)], args := [d1, d2] }
  | _ => none }
def DaysEasterWrongFalsely : Prop := daysEasterRow.holds Tryd.pinned (OpenSpec.ofChange daysEasterWrong)

/- THE SECOND FORM. 'bulk': how many values and letters a reading holds, each counted each time it is reached (what is shared counts as often as it is met; a slice's spare places count too). A statement '..UptoSaid' is the law's where the arguments, and the package variables that the reading takes, are together of bulk at most 1048576: NARROWER than '..Said'. Prove '..Said' where nothing that the law and all that it calls make is longer than what came in: it says more and counts as full. Else prove '..UptoSaid'. A law counts once. -/
mutual
def uptoBulk {H : Type} : DataW H → Nat
  | .lit (.string bytes) => bytes.length + 1
  | .lit _ => 1
  | .nil => 1
  | .ptr d => uptoBulk d + 1
  | .slice elems spare => uptoBulkAll elems + uptoBulkAll spare + 1
  | .agg parts => uptoBulkAll parts + 1
  | .iface _ d => uptoBulk d + 1
  | .map entries => uptoBulkEntries entries + 1
  | .held _ => 1
def uptoBulkAll {H : Type} : List (DataW H) → Nat
  | [] => 0
  | d :: r => uptoBulk d + uptoBulkAll r
def uptoBulkEntries {H : Type} : List (Lit × DataW H) → Nat
  | [] => 0
  | x :: r => uptoBulkEntry x + uptoBulkEntries r
def uptoBulkEntry {H : Type} : Lit × DataW H → Nat
  | (.string bytes, d) => bytes.length + uptoBulk d + 1
  | (_, d) => uptoBulk d + 1
 end
def uptoSmall : (H : Type) → List (DataW H) → Bool := fun _ ds => decide (uptoBulkAll ds ≤ 1048576)
def OpenSpec.upto (s : _root_.Go.ChangeSpec) : _root_.Go.OpenSpec := { _root_.Go.OpenSpec.ofChange s with cond := some uptoSmall }

/-- 'almanaclaw.DaysMaya', WHERE WHAT IT READS IS OF BULK AT MOST 1048576: true; the input reads as it did. -/
def daysMayaUptoRow : OpenClaim := { program := "ytajnpdaljocnnaadoor", sum := "bde750efa1e49fb11fda33eb2a14dbd5d16d5132dbe3a4fbff24feaf32e8f397", func := "almanac/almanaclaw.DaysMaya", spec := "daysMaya", inPlace := ["internal/reflectlite.ValueOf", "(internal/reflectlite.Value).Type", "(internal/reflectlite.Value).IsNil", "internal/reflectlite.TypeOf", "(internal/reflectlite.Value).Elem", "(internal/reflectlite.Value).Set"], unfollowed := true, recurses := true, named := ["errors.errorType"], apart := false, laid := [("errors.errorType", laid_errors_errorType)], narrowed := true }
def DaysMayaUptoSaid : Prop := daysMayaUptoRow.holds Tryd.pinned (OpenSpec.upto daysMayaSpec)

/-- 'almanackeep.DaysRound', WHERE WHAT IT READS IS OF BULK AT MOST 1048576: true; the input reads as it did. -/
def daysRoundUptoRow : OpenClaim := { program := "ytajnpdaljocnnaadoor", sum := "bde750efa1e49fb11fda33eb2a14dbd5d16d5132dbe3a4fbff24feaf32e8f397", func := "almanac/almanackeep.DaysRound", spec := "daysRound", inPlace := ["internal/reflectlite.ValueOf", "(internal/reflectlite.Value).Type", "(internal/reflectlite.Value).IsNil", "internal/reflectlite.TypeOf", "(internal/reflectlite.Value).Elem", "(internal/reflectlite.Value).Set"], unfollowed := true, recurses := true, named := ["errors.errorType"], apart := false, laid := [("errors.errorType", laid_errors_errorType)], narrowed := true }
def DaysRoundUptoSaid : Prop := daysRoundUptoRow.holds Tryd.pinned (OpenSpec.upto daysRoundSpec)

/-- 'almanaclaw.DaysOf', WHERE WHAT IT READS IS OF BULK AT MOST 1048576: true; the input reads as it did. -/
def daysOfUptoRow : OpenClaim := { program := "ytajnpdaljocnnaadoor", sum := "bde750efa1e49fb11fda33eb2a14dbd5d16d5132dbe3a4fbff24feaf32e8f397", func := "almanac/almanaclaw.DaysOf", spec := "daysOf", inPlace := ["internal/reflectlite.ValueOf", "(internal/reflectlite.Value).Type", "(internal/reflectlite.Value).IsNil", "internal/reflectlite.TypeOf", "(internal/reflectlite.Value).Elem", "(internal/reflectlite.Value).Set"], unfollowed := true, recurses := true, named := ["almanac/days.roman", "errors.errorType"], apart := false, laid := [("errors.errorType", laid_errors_errorType), ("almanac/days.roman", laid_almanac_days_roman)], narrowed := true }
def DaysOfUptoSaid : Prop := daysOfUptoRow.holds Tryd.pinned (OpenSpec.upto daysOfSpec)

/-- 'almanaclaw.DaysDates', WHERE WHAT IT READS IS OF BULK AT MOST 1048576: true; the input reads as it did. -/
def daysDatesUptoRow : OpenClaim := { program := "ytajnpdaljocnnaadoor", sum := "bde750efa1e49fb11fda33eb2a14dbd5d16d5132dbe3a4fbff24feaf32e8f397", func := "almanac/almanaclaw.DaysDates", spec := "daysDates", inPlace := ["internal/reflectlite.ValueOf", "(internal/reflectlite.Value).Type", "(internal/reflectlite.Value).IsNil", "internal/reflectlite.TypeOf", "(internal/reflectlite.Value).Elem", "(internal/reflectlite.Value).Set"], unfollowed := true, recurses := true, named := ["almanac/days.roman", "errors.errorType"], apart := false, laid := [("errors.errorType", laid_errors_errorType), ("almanac/days.roman", laid_almanac_days_roman)], narrowed := true }
def DaysDatesUptoSaid : Prop := daysDatesUptoRow.holds Tryd.pinned (OpenSpec.upto daysDatesSpec)

/-- 'almanaclaw.DaysLeaps', WHERE WHAT IT READS IS OF BULK AT MOST 1048576: true; the input reads as it did. -/
def daysLeapsUptoRow : OpenClaim := { program := "ytajnpdaljocnnaadoor", sum := "bde750efa1e49fb11fda33eb2a14dbd5d16d5132dbe3a4fbff24feaf32e8f397", func := "almanac/almanaclaw.DaysLeaps", spec := "daysLeaps", inPlace := ["internal/reflectlite.ValueOf", "(internal/reflectlite.Value).Type", "(internal/reflectlite.Value).IsNil", "internal/reflectlite.TypeOf", "(internal/reflectlite.Value).Elem", "(internal/reflectlite.Value).Set"], unfollowed := true, recurses := true, named := ["almanac/days.roman", "errors.errorType"], apart := false, laid := [("errors.errorType", laid_errors_errorType), ("almanac/days.roman", laid_almanac_days_roman)], narrowed := true }
def DaysLeapsUptoSaid : Prop := daysLeapsUptoRow.holds Tryd.pinned (OpenSpec.upto daysLeapsSpec)

/-- 'almanaclaw.DaysEasters', WHERE WHAT IT READS IS OF BULK AT MOST 1048576: true; the input reads as it did. -/
def daysEastersUptoRow : OpenClaim := { program := "ytajnpdaljocnnaadoor", sum := "bde750efa1e49fb11fda33eb2a14dbd5d16d5132dbe3a4fbff24feaf32e8f397", func := "almanac/almanaclaw.DaysEasters", spec := "daysEasters", inPlace := ["internal/reflectlite.ValueOf", "(internal/reflectlite.Value).Type", "(internal/reflectlite.Value).IsNil", "internal/reflectlite.TypeOf", "(internal/reflectlite.Value).Elem", "(internal/reflectlite.Value).Set"], unfollowed := true, recurses := true, named := ["almanac/days.roman", "errors.errorType"], apart := false, laid := [("errors.errorType", laid_errors_errorType), ("almanac/days.roman", laid_almanac_days_roman)], narrowed := true }
def DaysEastersUptoSaid : Prop := daysEastersUptoRow.holds Tryd.pinned (OpenSpec.upto daysEastersSpec)

/-- 'almanackeep.DaysKeep', WHERE WHAT IT READS IS OF BULK AT MOST 1048576: true; the input reads as it did. -/
def daysKeepUptoRow : OpenClaim := { program := "ytajnpdaljocnnaadoor", sum := "bde750efa1e49fb11fda33eb2a14dbd5d16d5132dbe3a4fbff24feaf32e8f397", func := "almanac/almanackeep.DaysKeep", spec := "daysKeep", inPlace := ["internal/reflectlite.ValueOf", "(internal/reflectlite.Value).Type", "(internal/reflectlite.Value).IsNil", "internal/reflectlite.TypeOf", "(internal/reflectlite.Value).Elem", "(internal/reflectlite.Value).Set"], unfollowed := true, recurses := true, named := ["almanac/days.roman", "errors.errorType"], apart := false, laid := [("errors.errorType", laid_errors_errorType), ("almanac/days.roman", laid_almanac_days_roman)], narrowed := true }
def DaysKeepUptoSaid : Prop := daysKeepUptoRow.holds Tryd.pinned (OpenSpec.upto daysKeepSpec)

/-- 'almanaclaw.DaysWeeks', WHERE WHAT IT READS IS OF BULK AT MOST 1048576: true; the input reads as it did. -/
def daysWeeksUptoRow : OpenClaim := { program := "ytajnpdaljocnnaadoor", sum := "bde750efa1e49fb11fda33eb2a14dbd5d16d5132dbe3a4fbff24feaf32e8f397", func := "almanac/almanaclaw.DaysWeeks", spec := "daysWeeks", inPlace := ["internal/reflectlite.ValueOf", "(internal/reflectlite.Value).Type", "(internal/reflectlite.Value).IsNil", "internal/reflectlite.TypeOf", "(internal/reflectlite.Value).Elem", "(internal/reflectlite.Value).Set"], unfollowed := true, recurses := true, named := ["almanac/days.roman", "errors.errorType"], apart := false, laid := [("errors.errorType", laid_errors_errorType), ("almanac/days.roman", laid_almanac_days_roman)], narrowed := true }
def DaysWeeksUptoSaid : Prop := daysWeeksUptoRow.holds Tryd.pinned (OpenSpec.upto daysWeeksSpec)

/-- 'almanackeep.DaysWeek', WHERE WHAT IT READS IS OF BULK AT MOST 1048576: true; the input reads as it did. -/
def daysWeekUptoRow : OpenClaim := { program := "ytajnpdaljocnnaadoor", sum := "bde750efa1e49fb11fda33eb2a14dbd5d16d5132dbe3a4fbff24feaf32e8f397", func := "almanac/almanackeep.DaysWeek", spec := "daysWeek", inPlace := ["internal/reflectlite.ValueOf", "(internal/reflectlite.Value).Type", "(internal/reflectlite.Value).IsNil", "internal/reflectlite.TypeOf", "(internal/reflectlite.Value).Elem", "(internal/reflectlite.Value).Set"], unfollowed := true, recurses := true, named := ["almanac/days.roman", "errors.errorType"], apart := false, laid := [("errors.errorType", laid_errors_errorType), ("almanac/days.roman", laid_almanac_days_roman)], narrowed := true }
def DaysWeekUptoSaid : Prop := daysWeekUptoRow.holds Tryd.pinned (OpenSpec.upto daysWeekSpec)

/-- 'almanackeep.DaysMeet', WHERE WHAT IT READS IS OF BULK AT MOST 1048576: true; the input reads as it did. -/
def daysMeetUptoRow : OpenClaim := { program := "ytajnpdaljocnnaadoor", sum := "bde750efa1e49fb11fda33eb2a14dbd5d16d5132dbe3a4fbff24feaf32e8f397", func := "almanac/almanackeep.DaysMeet", spec := "daysMeet", inPlace := ["internal/reflectlite.ValueOf", "(internal/reflectlite.Value).Type", "(internal/reflectlite.Value).IsNil", "internal/reflectlite.TypeOf", "(internal/reflectlite.Value).Elem", "(internal/reflectlite.Value).Set"], unfollowed := true, recurses := true, named := ["almanac/days.roman", "errors.errorType"], apart := false, laid := [("errors.errorType", laid_errors_errorType), ("almanac/days.roman", laid_almanac_days_roman)], narrowed := true }
def DaysMeetUptoSaid : Prop := daysMeetUptoRow.holds Tryd.pinned (OpenSpec.upto daysMeetSpec)

/-- 'almanackeep.DaysEaster', WHERE WHAT IT READS IS OF BULK AT MOST 1048576: true; the input reads as it did. -/
def daysEasterUptoRow : OpenClaim := { program := "ytajnpdaljocnnaadoor", sum := "bde750efa1e49fb11fda33eb2a14dbd5d16d5132dbe3a4fbff24feaf32e8f397", func := "almanac/almanackeep.DaysEaster", spec := "daysEaster", inPlace := ["internal/reflectlite.ValueOf", "(internal/reflectlite.Value).Type", "(internal/reflectlite.Value).IsNil", "internal/reflectlite.TypeOf", "(internal/reflectlite.Value).Elem", "(internal/reflectlite.Value).Set"], unfollowed := true, recurses := true, named := ["almanac/days.roman", "errors.errorType"], apart := false, laid := [("errors.errorType", laid_errors_errorType), ("almanac/days.roman", laid_almanac_days_roman)], narrowed := true }
def DaysEasterUptoSaid : Prop := daysEasterUptoRow.holds Tryd.pinned (OpenSpec.upto daysEasterSpec)

end Rows
end Go.Proofs.YtajnpdaljocnnaaDoor
