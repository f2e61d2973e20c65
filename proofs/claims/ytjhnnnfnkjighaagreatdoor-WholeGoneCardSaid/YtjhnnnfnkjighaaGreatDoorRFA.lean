/- Whole: a part of the proof. No conditions. -/
import Derived.Test.YtjhnnnfnkjighaaGreatDoorRows
import Derived.JoinedOf
import GoSem.ClaimSeven
set_option linter.unusedVariables false
set_option linter.unusedSimpArgs false
set_option maxRecDepth 100000
namespace Go.Proofs.YtjhnnnfnkjighaaGreatDoor
open Go
theorem anm:(List.range Tryz.prog.types.size).all (rowFine Tryz.prog)=true:=by kernel_rfl
theorem ano:Tryz.prog.globals.all (λg=>decide (g.type<Tryz.prog.types.size))=true:=by kernel_rfl
theorem anp:Tryz.prog.funcs.all (λf=>f.params.all λt=>decide (t<Tryz.prog.types.size))=true:=by kernel_rfl
theorem anr:laidOutB Tryz.prog=true:=by
 unfold laidOutB
 rw[anm,ano,anp]
 rfl
end Go.Proofs.YtjhnnnfnkjighaaGreatDoor
