/- Whole: a part of the proof. No conditions. -/
import Derived.Test.YtjhnnnfnkjighaaGreatDoorRFB
import Derived.Test.YtjhnnnfnkjighaaGreatDoorRFCGone
import Derived.Test.YtjhnnnfnkjighaaGreatDoorRFDGone
import Derived.Test.YtjhnnnfnkjighaaGreatDoorRFEGone
set_option linter.unusedVariables false
set_option linter.unusedSimpArgs false
set_option maxRecDepth 100000
namespace Go.Proofs.YtjhnnnfnkjighaaGreatDoor
open Go
theorem anC:joinedFacts Tryz.prog 3 Tryz.f3 Rows.wholeGoneSpec Rows.wholeGoneRow=true:=by
 unfold joinedFacts
 rw[anr,ans,anx,anz,anA,anB,anu,anv]
 kernel_rfl
theorem anD (o:Option FuncId):o.any Tryz.prog.goes=false:=by
 match o with
 |none=>rw[Option.any_none]
 |some f=>rw[Option.any_some,anw]
theorem anE:false=Rows.wholeGoneRow.goesBy Tryz.prog:=by
 unfold OpenClaim.goesBy Program.goesAt Program.goesFrom
 rw[anD,Bool.false_or]
 kernel_rfl
end Go.Proofs.YtjhnnnfnkjighaaGreatDoor
