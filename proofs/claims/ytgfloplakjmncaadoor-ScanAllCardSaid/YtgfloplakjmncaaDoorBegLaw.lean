/- Plain: ScanBegins: a beginning's tokens but for the last one are the whole's first ones. By an AI agent; no person has read it. -/
import Derived.Test.YtgfloplakjmncaaDoorEndLaws
set_option linter.unusedSimpArgs false
set_option linter.unusedVariables false
namespace Go.Proofs.YtgfloplakjmncaaDoor
open Go
/-- The blanks at a place. -/
def gapL (l : List UInt8) : Nat := l.length - (l.dropWhile (([32, 9, 13, 10] : List UInt8).contains ·)).length
theorem gap_list (s : ByteArray) (a : Nat) : gap s a = gapL (s.data.toList.drop a) := rfl
end Go.Proofs.YtgfloplakjmncaaDoor
