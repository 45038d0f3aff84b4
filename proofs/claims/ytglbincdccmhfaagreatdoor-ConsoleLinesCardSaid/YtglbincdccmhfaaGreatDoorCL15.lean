/- Part 15 of the proof: the texts SN. -/
import Derived.Test.YtglbincdccmhfaaGreatDoorCL14
set_option linter.unusedVariables false
namespace Tdoc
open Go Go.Proofs
theorem consoleLines_spec (x:Akt) (P:List (List Dat)) (hp:P.length=x.pts) (hk : -9223372036854775808≤x.kind∧x.kind≤9223372036854775807) (hx:LenW x P) :
  Spec Tryz.prog 3 [.agg (qBn x P)] [] (fun r h'=>r=.d (.bool true)∧h'=[]):=consoleLines_of qQm x P hp hk hx
end Tdoc
