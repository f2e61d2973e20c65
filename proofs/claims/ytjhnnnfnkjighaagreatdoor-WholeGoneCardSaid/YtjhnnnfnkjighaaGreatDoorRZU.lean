/- Whole: a part of the proof. No conditions. -/
import Derived.Test.YtjhnnnfnkjighaaGreatDoorQ26
import Derived.Test.YtjhnnnfnkjighaaGreatDoorQ08
import Derived.Test.YtjhnnnfnkjighaaGreatDoorRows
import Derived.ProofKit
import Derived.OpenShut
import Derived.Below
import Derived.SizedLaws
import Derived.LaidMore
import Derived.Stop.Joined
set_option linter.unusedVariables false
set_option linter.unusedSimpArgs false
set_option maxRecDepth 100000
namespace Go.Proofs.YtjhnnnfnkjighaaGreatDoor.wholeGone
open Go.ChangeShapes Go.WideShapes Go.ChangeAt Go.RowKit Go.Sp
theorem ani:ownKnob Tryz.prog.godebug=none:=by kernel_rfl
theorem anj (os:Os) (args:Array Value):laidMetH Tryz.prog Rows.wholeGoneRow.laid ((World.doorLaid Tryz.prog 400 os).forCall (λ_ _=>0) ⟨#[],args,[]⟩).memory:=laidMetH_of_parts3 (fuel:=8) (laidMet_of_run' 8 (by kernel_rfl) (by kernel_rfl)) (by kernel_rfl) (by kernel_rfl)
theorem lifted (os:Os) (started:os.Started) (H:Type) (enc:TypeId×Value->H): ReturnsInHanded {} Tryz.checked os 3 .any (λw args=>(Rows.wholeGoneSpec.pre enc Tryz.prog Tryz.f3 [] false w args/\laidMetH Tryz.prog Rows.wholeGoneRow.laid w)/\sizedMet enc Tryz.prog Tryz.f3 (OpenSpec.ofChange Rows.wholeGoneSpec) false w args) (Rows.wholeGoneSpec.post enc Tryz.prog Tryz.f3 false true false false):=by
 refine returnsInHanded_of_change_and (C:=Tryz.checked) (X:=λw _=>laidMetH Tryz.prog Rows.wholeGoneRow.laid w) (λ_ _ _ hh h=>h.of_heap hh) ani started (by kernel_rfl) Tryz.func3 (ChangeSpec.witness_shaped (enc:=enc) (C:=Tryz.checked) (os:=os) (X:=λw _=>laidMetH Tryz.prog Rows.wholeGoneRow.laid w) false (World.doorLaid Tryz.prog 400 os) #[.int .u8 0,.int .u8 0,.bool false] 8 rfl (World.shaped_of_RefB (by kernel_rfl) (by kernel_rfl)) (by kernel_rfl) (by kernel_rfl) (by kernel_rfl) (anj os _)) ?_;intro W base args ds gs before abO hW _ _ hL _;have Qp:∀(j:Nat) t v,Tryz.f3.params[j]?=some t->args[j]?=some v->Value.okWide Tryz.prog W .any base t v:=abO;have hW':=hW;obtain⟨p,q,Bs,hV,rfl,hfz,fm⟩:=hW;have hA:DataW.TrodAll enc Tryz.prog W 0 (λ_=>true) true Tryz.f3.params.toList args.toList ds p:=Bs;rw[Tryz.params3] at hA Qp;obtain⟨v0,vs0,d0,ds0,p0,q0,yp,rfl,rfl,h0,r0⟩:=trodAll_cons hA;obtain⟨v1,vs1,d1,ds1,p1,q1,rfl,rfl,rfl,h1,r1⟩:=trodAll_cons r0;obtain⟨v2,vs2,d2,ds2,p2,q2,rfl,rfl,rfl,h2,r2⟩:=trodAll_cons r1;obtain⟨rfl,rfl,rfl⟩:=trodAll_nil r2;obtain rfl:args=#[v0,v1,v2]:=by cases args;simp_all
 obtain⟨rfl,rfl⟩:=trodVars_none hV;obtain⟨a0,rfl,rfl,rfl,w0⟩:=open_int Tryz.underlying5 (Qp 0 5 v0 rfl rfl) h0;obtain⟨a1,rfl,rfl,rfl,w1⟩:=open_int Tryz.underlying5 (Qp 1 5 v1 rfl rfl) h1;obtain⟨a2,rfl,rfl,rfl⟩:=open_bool Tryz.underlying4 (Qp 2 4 v2 rfl rfl) h2;clear Bs abO;refine Calls.mono (anq (m:=a2) (amk w0) (amk w1)) λe W' he=> ?_;obtain⟨v,rfl,rfl,bel⟩:=he;exact⟨_,rfl,_,_,_,[],_,[],hW',trodAll_mk1 (shut_bool Tryz.underlying4 _),(trodAll_cons_mk (shut_int Tryz.underlying5 w0) (trodAll_cons_mk (shut_int Tryz.underlying5 w1) (trodAll_cons_mk (shut_bool Tryz.underlying4 _) trodAll_mk0))),rfl,bel.frame _,λh=>by cases h⟩
end Go.Proofs.YtjhnnnfnkjighaaGreatDoor.wholeGone
