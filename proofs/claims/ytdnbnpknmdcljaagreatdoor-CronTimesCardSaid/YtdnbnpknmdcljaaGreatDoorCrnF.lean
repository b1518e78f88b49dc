/- Plain: the text of a Cron; strings.Join of words that are there. -/
import Derived.Test.YtdnbnpknmdcljaaGreatDoorCrnA
import Derived.Lib.Join
import Derived.Lib.ItoaNum
namespace Go.Proofs.YtdnbnpknmdcljaaGreatDoor
open Go.RowKit
/-- A number's text (numbers below 100 alone are asked). -/
def numL (n : Int) : List UInt8 := Lib.decDigits n.toNat
def wordsL (l : List Int) (behind : List UInt8) : List (List UInt8) := l.map fun n => numL n ++ behind
def wholeL (l : List Int) (all : Nat) : List UInt8 := if l.length = all then [42] else Lib.join (wordsL l []) [44]
def nthL (l : List (Int × Int)) : List (List UInt8) := l.map fun p => numL p.2 ++ [35] ++ numL p.1
def monthL (c : Cron) : List (List UInt8) := if c.any then [[42]] else wordsL c.da [] ++ wordsL c.ne [87] ++ (if c.la then [[76]] else [])
def weekL (c : Cron) : List (List UInt8) := if c.aw then [[42]] else wordsL c.wd [] ++ wordsL c.lo [76] ++ nthL c.nt
def textL (c : Cron) : List UInt8 := Lib.join [wholeL c.mi 60, wholeL c.ho 24, Lib.join (monthL c) [44], wholeL c.mo 12, Lib.join (weekL c) [44]] [32]
end Go.Proofs.YtdnbnpknmdcljaaGreatDoor
