/- Whole: a part of the proof. No conditions. -/
import Derived.Test.YtjhnnnfnkjighaaGreatDoorRFA
set_option linter.unusedVariables false
set_option linter.unusedSimpArgs false
set_option maxRecDepth 100000
namespace Go.Proofs.YtjhnnnfnkjighaaGreatDoor
open Go
theorem ans:mapsRowed Tryz.prog=true:=by kernel_rfl
theorem ant:Tryz.prog.funcs.all (λfn=> !fn.goes)=true:=by kernel_rfl
theorem anu:Tryz.prog.stopsHeard=true:=by kernel_rfl
theorem anv:Tryz.prog.mayEnter=true:=by kernel_rfl
theorem anw (f:FuncId):Tryz.prog.goes f=false:=by
 have h:∀fn∈Tryz.prog.funcs,fn.goes=false:=λfn hf=>by
  have:=Array.all_eq_true'.1 ant fn hf
  simpa using this
 unfold Program.goes
 rw[Bool.or_eq_false_iff]
 refine⟨?_,?_⟩
 .rw[List.any_eq_false]
  intro g _
  cases hg:Tryz.prog.funcs[g]? with
  |none=>simp
  |some fn=>simpa using h fn (Array.mem_of_getElem? hg)
 .rw[Bool.and_eq_false_iff]
  right
  rw[Array.any_eq_false']
  intro fn hf
  simpa using h fn hf
end Go.Proofs.YtjhnnnfnkjighaaGreatDoor
