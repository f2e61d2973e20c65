/- WholeGone: the card. No conditions. -/
import Derived.Test.YtjhnnnfnkjighaaGreatDoorRZU
import Derived.Test.YtjhnnnfnkjighaaGreatDoorRFFGone
import Derived.Test.YtjhnnnfnkjighaaGreatDoorCards
import Derived.Test.YtjhnnnfnkjighaaGreatDoorTie
import Derived.SevenTiedAt
set_option linter.unusedVariables false
set_option linter.unusedSimpArgs false
set_option maxRecDepth 100000
namespace Go.Proofs.YtjhnnnfnkjighaaGreatDoor
open Go
theorem anF:Rows.WholeGoneSaid:=
 OpenClaim.holds_of_wide 3 Tryz.f3 rfl rfl rfl rfl rfl rfl rfl ⟨rfl,rfl,rfl,rfl,rfl⟩ rfl rfl rfl rfl rfl (by kernel_rfl) Tryz.func3 anC
  (of_decide_eq_true (by kernel_rfl)) (by unfold Func.isWrapper;first|(rw[if_pos (by decide+kernel)];kernel_rfl)|(rw[if_neg (by decide+kernel)];exact⟨rfl,rfl⟩))
  (λos started H enc _=>wholeGone.lifted os started H enc)
theorem wholeGone_holds:Rows.WholeGoneCardSaid:=
 Claim7.holds_tied_plain_at .later [] [.data,.data,.data] true (true, "4ea5d66f54f998aa8016d3ffc798b8c99a57756f1e0797dbb28e8d3641db532a") true
  anF (λ_ h=>by cases h) (by kernel_rfl) (λ_ h=>by cases h) wholeGone_row_tie rfl ⟨rfl,rfl⟩ (by kernel_rfl) rfl
  (λf fn hf mA=>by
   obtain rfl:f=3:=Option.some.inj ((show Tryz.prog.funcNamed "tenon/tenontop.WholeGone" =some 3 by kernel_rfl).symm.trans hf)|>.symm
   obtain rfl:fn=Tryz.f3:=(Option.some.inj (Tryz.func3.symm.trans mA)).symm
   exact⟨by kernel_rfl,λj t ht=>by
    rw[Tryz.params3] at ht
    have hm:t∈[5,5,4]:=by simpa using Array.mem_of_getElem? ht
    have lU:([5,5,4].all λu=> !Tryz.prog.wantsStandIn u)=true:=by kernel_rfl
    exact(show Tryz.prog.wantsStandIn t=false by simpa using se.1 lU t hm)⟩)
  anE
#print axioms wholeGone_holds
end Go.Proofs.YtjhnnnfnkjighaaGreatDoor
