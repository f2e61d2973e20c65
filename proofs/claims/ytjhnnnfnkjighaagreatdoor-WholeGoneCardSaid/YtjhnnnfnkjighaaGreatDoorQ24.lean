/- Whole: a part of the proof. No conditions. -/
import Derived.Test.YtjhnnnfnkjighaaGreatDoorQ23
set_option linter.unusedVariables false
set_option linter.unusedSimpArgs false
set_option maxRecDepth 100000
namespace Go.Proofs.YtjhnnnfnkjighaaGreatDoor
open Go.Sp Go.RowKit
theorem Em (S:WS) (j:Nat):ch S (j:Int)=S.bQ[j]?:=by unfold ch;rw[if_neg (by omega),cu]
section
variable {O w:ao} {F:HP} {k:Nat} {S:WS} {P:WP} {I:WI} {aj:Int} {H:dr} {κ:eA}
theorem WO.T0 (hH:ch S aj=some H) (bB:P.bw[aj.toNat]?=some κ) (h:V O (WO P k S*F) w):∃Y,w.cell? ((aD κ.kh).add 5)=some (al κ.kl)/\V O (jB κ.kl κ.rl H.bX H.gU*(Y*F)) w/\ ∀F' n l w',V O (jB κ.kl κ.rl n l*(Y*F')) w'->V O (WO P k (bV S aj {H with bX:=n,gU:=l})*F') w':=by obtain⟨qL,Q,X,h1,gd,h0,hQ,bt⟩:=WO.rY hH h;rw[bB] at gd;cases gd;have e:Q.kl=κ.kl:=congrArg eA.kl hQ;have e2:Q.rl=κ.rl:=congrArg eA.rl hQ;have h2:=HO.SW h1;have h3:=HO.cell h1 (i:=5) (v:=al Q.kl) rfl;rw[e,e2] at h2;rw[e] at h3;exact⟨BN Q κ.kh aj H*X,h3,h2.aF (by ac_rfl),λF' n l w' hs=>bt _ _ _ _ hQ (HO.SX _ _ (by rw[e,e2];exact hs.p1.a.p2))⟩
theorem WO.T5 (hH:ch S aj=some H) (bB:P.bw[aj.toNat]?=some κ) (h:V O (WO P k S*F) w):∃Y,w.cell? ((aD κ.kh).add 3)=some (al κ.ks)/\V O (dD κ.ks aj H.ca*(Y*F)) w/\ ∀F' s w',V O (dD κ.ks aj s*(Y*F')) w'->V O (WO P k (bV S aj {H with ca:=s})*F') w':=by obtain⟨qL,Q,X,h1,gd,h0,hQ,bt⟩:=WO.rY hH h;rw[bB] at gd;cases gd;have e:Q.ks=κ.ks:=congrArg eA.ks hQ;have h2:=HO.zC h1;have h3:=HO.cell h1 (i:=3) (v:=al Q.ks) rfl;rw[e] at h2 h3;exact⟨zB Q κ.kh aj H*X,h3,h2.aF (by ac_rfl),λF' s w' hs=>bt _ _ _ _ hQ (HO.zD _ (by rw[e];exact hs.p1.a.p2))⟩
theorem WO.T6 (h:V O (WO P k S*F) w):w.cell? (((aD k).add 0).add 2)=some (aa 2):=by have h1:=h.aF (B:=bT P k S*(dO 0 P.bw S.bQ*iX P k S*F)) (by rw[WO.bQ];ac_rfl);obtain⟨⟨tS,h2,_⟩,h3⟩:=bT.aK h1;rw[jG];refine aB h3 (i:=2) ?_;rw[wB,Array.getElem?_append_left (by omega),h2]
theorem WH.bj (h:V O (WH k I S*F) w):w.cell? ((aD k).add 5)=some (af I.hp I.bw.length I.hc)/\I.bw.length=S.bQ.length/\(I.bw.length:Int)<=9223372036854775807:=by
 obtain⟨P,hP,h1⟩:=WH.aK h;subst hP;refine⟨WO.cell (i:=0) h1 rfl,WO.eB h1,?_⟩;show(P.bw.length:Int)<=9223372036854775807;have h4:=h1.aF (B:=bT P k S*(dO 0 P.bw S.bQ*iX P k S*F)) (by rw[WO.bQ];ac_rfl);have h5:=(bT.aK h4).2.right.left;rcases h5.po.2 with⟨_,e⟩|⟨g',cap,cur,e,_,_,q1,q2,_⟩
 .omega
 .simp only[maxLen] at q2;omega
theorem WH.ba (hH:ch S aj=some H) (h:V O (WH k I S*F) w):∃κ,I.bw[aj.toNat]?=some κ/\∀K:av->Prop,K (aU κ.kh)->Sp.ba I.hp I.bw.length aj 1 λa=>aX a w K:=by obtain⟨P,hP,h1⟩:=WH.aK h;subst hP;obtain⟨κ,bB,h0⟩:=WO.pR hH h1;exact⟨κ,bB,λK hK=>WO.lj h1 bB h0 hK⟩
theorem WO.T7 (hH:ch S aj=some H) (bB:P.bw[aj.toNat]?=some κ) (h:V O (WO P k S*F) w):w.cell? ((aD κ.kh).add 1)=some (aC false):=by obtain⟨qL,Q,X,h1,gd,h0,hQ,bt⟩:=WO.rY hH h;rw[bB] at gd;cases gd;exact HO.cell h1 (i:=1) rfl
theorem akp {t:Int} (hH:ch S aj=some H) (bB:P.bw[aj.toNat]?=some κ) (h:V O (WO P k S*F) w):ae 95 #[al κ.kp,ah t] w λv w'=>v=aC (Dz H.dA t)/\V O (WO P k S*F) w':=by obtain⟨Y,_,h1,bt⟩:=WO.dA hH bB h;refine ay (ae4 h1) ?_;rintro _ w' ⟨rfl,h2⟩;have:=bt _ _ h2;rw[rX (H:={H with dA:=H.dA}) hH] at this;exact⟨rfl,this⟩
theorem akq {S':WS} (hm:Km S=some S') (h:V O (WH k I S*F) w):ae 54 #[al k] w λv w'=>v=aT/\V O (WH k I S'*F) w':=by
 unfold Km at hm;split at hm
 .cases hm
 rename_i gk;have gk:S.cK<=1000000:=lT.1 gk;obtain⟨_,hL,hLm⟩:=WH.bj h;obtain⟨L,hLe⟩:∃L,L=S.bQ.length:=⟨_,rfl⟩;rw[<-hLe] at hL hm;obtain⟨P,hI,h⟩:=WH.aK h;obtain⟨hp,h1⟩:=gH.aK (WO.zA h);apply Z1;refine aq<|bh (WO.cell (i:=7) h rfl)<|ay (agS (r:=⟨S.ld,S.c0,S.c2,S.cK⟩) hp.1.1 gk h1) ?_;rintro _ w1 ⟨rfl,h2⟩;obtain⟨S0,MT⟩:∃S0,S0=(if Bh S then{S with cK:=S.cK+1} else S):=⟨_,rfl⟩;rw[<-MT] at hm;have h3:V O (WH k I S0*F) w1:=by
  have hr:BD ⟨S.ld,S.c0,S.c2,S.cK⟩=Bh S:=rfl;rw[hr] at h2;rw[MT];by_cases er:Bh S=true
  .rw[if_pos er] at h2 ⊢;exact WH.aI hI (WO.wD S.ld S.c0 S.c2 (S.cK+1) (gH.aI ⟨⟨by omega,by omega⟩,hp.2⟩ h2))
  .rw[if_neg er] at h2 ⊢;exact WH.aI hI (WO.wD S.ld S.c0 S.c2 S.cK (gH.aI hp h2))
 clear h h1 h2;obtain⟨gJ,_,_⟩:=WH.bj h3;refine⟨rfl,aq<|aN gJ ⟨λx w' m=>∃(j:Nat) (T:WS),x=j/\j<=L/\m=L- j/\((List.range L).drop j).foldl (λ(S:Option WS) (aj:Nat)=>S.bind λS=>Kl S aj) (some T)=some S'/\V O (WH k I T*F) w',⟨_,0,S0,rfl,by omega,rfl,hm,h3⟩,?_⟩⟩;clear hm h3 gJ MT;rintro u _ w2 m ⟨j,T,rfl,hj,rfl,hm,h4⟩;refine bU (λaQ=> ?_) (λbW=> ?_);rotate_left
 .have:=HI (by simp;omega) hm;subst this;exact⟨rfl,h4⟩
 obtain⟨T1,fU,hm⟩:=HG (x:=j) (by rw[zM];omega) hm;unfold Kl at fU;obtain⟨H,hH,fU⟩:=bZ.1 fU;rw[<-Em] at hH;split at fU
 .cases fU
 rename_i T8;have BW:H.bX<=1000000:=lT.1 λe=>T8 (.inl e);have hhd:∀p∈H.gU,p.2<=1000000:=λp hp=>lT.1 λe=>T8 (.inr (Cg.2 ⟨p,hp,by simpa using e⟩));dsimp only at fU;obtain⟨T2,og,fU⟩:=bZ.1 fU;obtain⟨κ,En,zI⟩:=WH.ba hH h4;obtain⟨P,hI,h4⟩:=WH.aK h4;have bB:P.bw[(j:Int).toNat]?=some κ:=by rw[mj hI];exact En
 refine zI _<|aq<|gQ (WO.T7 hH bB h4)<|aw rfl ?_;obtain⟨Y,yb,h5,bt⟩:=WO.T0 hH bB h4;obtain⟨⟨hl,hn,El⟩,h6⟩:=jB.aK h5;refine aq<|bh yb<|ay (adL hl ⟨hn.1,BW⟩ (λp hp=>⟨(El p hp).1,hhd p hp⟩) h6) ?_;rintro _ w3 ⟨p,c,rfl,h7⟩;obtain⟨out,qg⟩:∃out,out=mB 4 (H.bX+1) H.gU:=⟨_,rfl⟩;obtain⟨left,BX⟩:∃left,left=rA 4 (H.bX+1) H.gU:=⟨_,rfl⟩;rw[<-qg,<-BX] at h7;rw[<-qg];obtain⟨Ha,Eo⟩:∃Ha:dr,Ha={H with bX:=H.bX+1,gU:=left}:=⟨_,rfl⟩;have h8:V O (WO P k (bV T (j:Int) Ha)*(aE 26 1 bS p out.length c out*F)) w3:=by
  rw[Eo];refine bt _ _ _ _ (jB.aI ⟨?_,⟨by omega,by omega⟩,λq hq=> ?_⟩ (h7.p2.p2))
  .rw[BX];exact Nat.le_trans (List.length_filter_le _ _) hl
  .rw[BX] at hq;exact El q (Ch.1 hq).1
 clear h4 h5 h6 h7 bt yb;have Ua:ch (bV T (j:Int) Ha) (j:Int)=some Ha:=sR hH;have ye:(out=[]/\T2=bV T (j:Int) Ha)\/∃(q:Int) (r:AS cC×aJ),out=[q]/\Gs Ha.ca q=some r/\Bg r.2=true/\r.2.length<=9/\Bc (bV T (j:Int) {Ha with ca:=r.1}) r.2=some T2:=by
  split at og
  .rename_i e;cases og;refine .inl ⟨by rw[qg,e];rfl,?_⟩;have:left=H.gU:=by rw[BX,e];rfl
   rw[Eo,this]
  .rename_i q e;split at og
   .rename_i h4;obtain⟨r,hr,og⟩:=bZ.1 og;split at og;rotate_left
    .cases og
    rename_i ha;refine .inr ⟨q.1,r,?_,?_,ha.1,ha.2,?_⟩
    .rw[qg,e];simp[mB,h4]
    .rw[Eo];exact hr
    .have:left=[]:=by rw[BX,e];simp[rA,h4]
     rw[Eo,this];exact og
   .rename_i h4;cases og;refine .inl ⟨?_,?_⟩
    .rw[qg,e];simp[mB,h4]
    .have:left=H.gU:=by rw[BX,e];simp[rA,h4]
     rw[Eo,this]
  .cases og
 refine iE ⟨λx w' m=>(x=0/\out.length=1/\m=1/\V O (WO P k (bV T (j:Int) Ha)*(aE 26 1 bS p out.length c out*F)) w')\/(x=out.length/\m=0/\V O (WH k I T2*F) w'),?_,?_⟩
 .rcases ye with⟨e,e2⟩|⟨q,r,e,_⟩
  .refine⟨0,.inr ⟨by rw[e];rfl,rfl,?_⟩⟩;rw[e2];exact WH.aI hI (h8.p1.right)
  .exact⟨1,.inl ⟨rfl,by rw[e];rfl,rfl,h8⟩⟩
 clear h8;rintro u _ w4 m (⟨rfl,Ep,rfl,h9⟩|⟨rfl,rfl,h9⟩)
 .rcases ye with⟨e,e2⟩|⟨q,r,e,hf,ha,tu,hu⟩
  .rw[e] at Ep;cases Ep
  refine aW (by simp[Ep])<|dC gL h9.p1.left (by decide) (by decide) (y:=q) (by rw[e];rfl) λg hg=>az (n:=q) (cU gL (j:=0) h9.p1.left hg (by rw[e];rfl) (by decide) rfl) ?_;obtain⟨Y2,m4,aV,BQ⟩:=WO.T5 Ua bB h9;refine aq<|bh m4<|ay (aeG aV (S':=r.1) (out:=r.2) hf ha (by omega)) ?_;rintro _ w5 ⟨p2,c2,rfl,bu⟩;have bA:=BQ _ r.1 w5 (bu.p2.p2);rw[yc] at bA;refine iE<|ay (S8 hu (bd.left bd.own) (by omega) (WH.aI hI bA)) ?_;rintro _ w6 ⟨rfl,bN⟩;exact⟨rfl,aY (by decide) (by decide) ⟨0,by decide,.inr ⟨by rw[Ep];rfl,rfl,bN.p1.right.p1.right⟩⟩⟩
 refine aw (by simp) ?_;clear ye og Ua;obtain⟨H2,lR,fU⟩:=bZ.1 fU;rw[<-Em] at lR;split at fU
 .cases fU
 rename_i Dl;have Dl:H2.bX=H.bX+1:=iA.1 Dl;have h9:=h9.drew;obtain⟨gJ,hL2,_⟩:=WH.bj h9;obtain⟨P2,zJ,aV⟩:=WH.aK h9;have HF:P2.bw[(j:Int).toNat]?=some κ:=by rw[mj zJ];exact En
 obtain⟨Y3,yb,bu,_⟩:=WO.T0 lR HF aV;obtain⟨_,bA⟩:=jB.aK bu;refine aq<|bh yb<|aq<|az (WO.T6 aV)<|ay (adn bA) ?_;rintro _ w7 ⟨rfl,rfl⟩;rw[Dl];refine bI ⟨WO.T6 aV,uo (by omega) (by decide) ?_⟩;split at fU
 .rename_i ho;cases fU;exact aW (by simpa using ho)<|aY (by omega) (by omega) ⟨_,by omega,j+1,T1,by omega,by omega,rfl,hm,h9⟩
 rename_i ho;have ho:(H.bX+1)%2=0:=iA.1 ho;refine aw (by simp[ho])<|aq<|aN gJ ⟨λx w' m=>∃(i:Nat) (T3:WS),x=i/\i<=L/\m=L- i/\((List.range L).drop i).foldl (λ(S:Option WS) (t:Nat)=>S.bind λS=>(S.bQ[j]?).bind λH=>if t≠j/\H.dA.sp.any (λy=>decide (y.st=1)&&decide (y.x.ox=t))=true then Option.map Prod.fst (oR S (⟨5,(j:Int),(t:Int),0,0,dW,0,0,0,[]⟩:PK)) else some S) (some T3)=some T1/\V O (WH k I T3*F) w',⟨_,0,T2,rfl,by omega,rfl,?_,h9⟩,?_⟩
 .rw[<-hL2,hL] at fU;exact fU
 clear h9 aV bu bA fU gJ;rintro u _ w8 m ⟨i,T3,rfl,hi,rfl,fU,bN⟩;refine bU (λoJ=> ?_) (λbW=> ?_);rotate_left
 .have:=HI (by simp;omega) fU;subst this;exact aY (by omega) (by omega) ⟨_,by omega,j+1,T3,by omega,by omega,rfl,hm,bN⟩
 obtain⟨T4,yf,fU⟩:=HG (x:=i) (by rw[zM];omega) fU;obtain⟨H3,ya,yf⟩:=bZ.1 yf;rw[<-Em] at ya;have next:∀{w':ao},V O (WH k I T4*F) w'->arith .i64 ((i:Int)+1) λn=>∃Ub,Ub<L- i/\∃(i2:Nat) (T3:WS),n=i2/\i2<=L/\Ub=L- i2/\((List.range L).drop i2).foldl (λ(S:Option WS) (t:Nat)=>S.bind λS=>(S.bQ[j]?).bind λH=>if t≠j/\H.dA.sp.any (λy=>decide (y.st=1)&&decide (y.x.ox=t))=true then Option.map Prod.fst (oR S (⟨5,(j:Int),(t:Int),0,0,dW,0,0,0,[]⟩:PK)) else some S) (some T3)=some T1/\V O (WH k I T3*F) w':=λhs=>aY (by omega) (by omega) ⟨_,by omega,i+1,T4,by omega,by omega,rfl,fU,hs⟩
 by_cases yS:i=j
 .rw[if_neg (λe=>e.1 yS)] at yf;cases yf;exact aw (by simp[yS]) (next bN)
 obtain⟨P3,Er,bY⟩:=WH.aK bN;have Uc:P3.bw[(j:Int).toNat]?=some κ:=by rw[mj Er];exact En
 obtain⟨Y4,MK,_,_⟩:=WO.dA ya Uc bY;refine aW (by simp;omega)<|aq<|bh MK<|fx (by omega) (by omega)<|ay (akp (t:=(i:Int)) ya Uc bY) ?_;rintro _ w9 ⟨rfl,cE⟩;refine cR ?_;have eu:Dz H3.dA (i:Int)=H3.dA.sp.any (λy=>decide (y.st=1)&&decide (y.x.ox=(i:Int))):=rfl;cases hu:Dz H3.dA (i:Int) with
 |false=>rw[if_neg (by rw[<-eu,hu];simp)] at yf;cases yf;exact aw rfl (next (WH.aI Er cE))
 |true=>
  rw[if_pos ⟨yS,by rw[<-eu,hu]⟩] at yf;obtain⟨r,hr,rfl⟩:=dd.1 yf;refine aW rfl<|aq<|bh (WO.cell (i:=6) cE rfl) ?_;have ep:((zV (aa 5) (aa (j:Int)) (aa (i:Int)) (ah 0) (ah 0) (aa 0) (aa 0) (aa 0)):aM)=bC ⟨5,(j:Int),(i:Int),0,0,dW,0,0,0,[]⟩ aP:=by apply cT;simp[bC,jI,mv,dW,bc,List.replicate]
  rw[ep];refine ay (Hx hr rfl cE) ?_;rintro _ dn ⟨⟨sq,rfl⟩,df⟩;exact⟨_,_,rfl,next (WH.aI Er df)⟩
end
theorem HJ {α:Type} {s:AS α} (hs:bx s) {p:Nat×bK α} (hp:p∈cq 0 s.sp):bg s (hd p.1 p.2.g)=some p.2.x:=by obtain⟨h1,h2⟩:=uL p hp;exact(rC hs).2 ⟨p.1,p.2,h1,h2,rfl,rfl⟩
theorem aku {l:aJ} {h:Int} (hm:h∈l):idxOf l h=some (l.idxOf h):=by
 unfold idxOf;induction l with
 |nil=>cases hm
 |cons x l ih=>
  rw[zP,List.idxOf_cons];by_cases e:x=h
  .simp[e]
  .have hb:(x==h)=false:=by simpa using e
   rcases pa.1 hm with q|q
   .exact absurd q.symm e
   .rw[hb];simp only[lS,if_false,cond_false];rw[ih q];rfl
theorem akv {l:aJ} {h:Int} (hm:h∉l):idxOf l h=none:=by unfold idxOf;rw[List.findIdx?_eq_none_iff];intro x hx;simp only[beq_eq_false_iff_ne,ne_eq];intro e;exact hm (e▸hx)
theorem akw {S:HS} {top:Int} (hs:dv top S) {g:aJ×List (List Nat)×aJ} (hg:Kn S=some g): g.2.2=Hp.fu S/\g.1=(Hp.fu S).map (Hp.oW S)/\g.2.1=((Hp.fu S).map (Hp.tO S (Hp.fu S))).map (gD (Hp.fu S).length):=by
 have ho:=hs.ok;unfold Kn at hg;dsimp only at hg;split at hg
 .cases hg
 rename_i hc;cases hg;have eB:((cq 0 S.sp).filterMap λp=>if p.2.x.ou=0 then some (hd p.1 p.2.g,p.2.x) else none).length=(cq 0 S.sp).length:=by
  rcases vt ((cq 0 S.sp).length=((cq 0 S.sp).filterMap λp=>if p.2.x.ou=0 then some (hd p.1 p.2.g,p.2.x) else none).length) with q|q
  .exact q.symm
  .exact absurd (.inr q) hc
 have lU:∀p∈cq 0 S.sp,p.2.x.ou=0:=by
  intro p hp;have:=List.filterMap_length_eq_length.1 eB p hp;split at this
  .assumption
  .cases this
 have sP:((cq 0 S.sp).filterMap λp=>if p.2.x.ou=0 then some (hd p.1 p.2.g,p.2.x) else none)=(cq 0 S.sp).map λp=>(hd p.1 p.2.g,p.2.x):=by
  have:∀l:List (Nat×bK OM),(∀p∈l,p.2.x.ou=0)->(l.filterMap λp=>if p.2.x.ou=0 then some (hd p.1 p.2.g,p.2.x) else none)=l.map λp=>(hd p.1 p.2.g,p.2.x):=by
   intro l;induction l with
   |nil=>intro _;rfl
   |cons a l ih=>intro hl;rw[List.filterMap_cons,if_pos (hl a (.head _)),jo,ih λp hp=>hl p (.tail _ hp)]
  exact this _ lU
 rw[sP] at hc ⊢;have akx:∀p∈cq 0 S.sp,p.2.x.cj=[]:=by
  intro p hp;rcases vt (p.2.x.cj=[]) with q|q
  .exact q
  .exact absurd (.inl (Cg.2 ⟨(hd p.1 p.2.g,p.2.x),fC.2 ⟨p,hp,rfl⟩,by simpa using q⟩)) hc
 have ehs:((cq 0 S.sp).map λp=>(hd p.1 p.2.g,p.2.x)).map (·.1)=fH 0 S.sp:=by rw[lq,qw];rfl
 have ewh:Hp.fu S=fH 0 S.sp:=by unfold Hp.fu;rw[List.filter_eq_self];intro h hh;rw[qw,fC] at hh;obtain⟨p,hp,rfl⟩:=hh;unfold Hp.qJ;rw[HJ ho hp];simpa using lU p hp
 rw[ehs,ewh];have emap:fH 0 S.sp=(cq 0 S.sp).map λp=>hd p.1 p.2.g:=qw _ _;refine⟨rfl,?_,?_⟩
 .dsimp only;rw[emap,lq,lq];refine yj λp hp=> ?_;simp only[Function.comp];unfold Hp.oW;rw[HJ ho hp]
 .dsimp only;rw[show(fH 0 S.sp).map (Hp.tO S (fH 0 S.sp))=(cq 0 S.sp).map (λp=>Hp.tO S (fH 0 S.sp) (hd p.1 p.2.g)) by rw[emap,lq];rfl,lq,lq];refine yj λp hp=> ?_;simp only[Function.comp];have sD:=HJ ho hp;unfold Hp.tO Hp.xZ mc gD;rw[sD];dsimp only;rw[akx p hp,jE,List.flatMap_nil,jS,sD,List.filterMap_filterMap];congr 1;funext x;unfold Hp.eC;by_cases e1:x.1=1
  .rw[if_pos e1,if_pos e1];by_cases hx:x.2∈fH 0 S.sp
   .rw[aku hx];obtain⟨o,zh⟩:=(CZ ho).2 hx;have BH:o.ou=0:=by have re:=hx;rw[emap,fC] at re;obtain⟨q,hq,vg⟩:=re;have:=HJ ho hq;rw[vg,zh] at this;cases this;exact lU q hq
    rw[Ga zh,if_neg (by simp[BH])];simp only[qR,gg];have aQ:=List.idxOf_lt_length_of_mem hx;rw[if_pos ⟨by omega,by omega⟩,cu]
   .rw[akv hx];have hn:bg S x.2=none:=by
     cases hq:bg S x.2 with
     |none=>rfl
     |some o=>exact absurd ((CZ ho).1 ⟨o,hq⟩) hx
    rw[JV hn];rfl
  .rw[if_neg e1,if_neg e1];rfl
theorem akA {S:HS} {l:aJ} (he:(xz S l).1≠0):(xz S l).2.1=S:=by
 unfold xz at he ⊢;split
 .rfl
 .rename_i h1;rw[if_neg h1] at he;split
  .rfl
  .rename_i h2;rw[if_neg h2] at he;exact absurd rfl he
theorem akB (l:aJ):l.flatMap Hp.ow=wa l:=by
 induction l with
 |nil=>rfl
 |cons x l ih=>rw[jE,ih];rfl
theorem akC (l:aJ):l.flatMap Hp.fI=cO l:=by
 induction l with
 |nil=>rfl
 |cons x l ih=>rw[jE,ih];rfl
theorem Ud (l:aJ):l.flatMap bS=pQ l:=by
 induction l with
 |nil=>rfl
 |cons x l ih=>rw[jE,ih];rfl
def Es (e:Hp.pP):G9:=⟨e.l,e.p,e.c⟩
theorem akD (l:List Hp.pP):l.flatMap Hp.oy=(l.map Es).flatMap LH:=by
 induction l with
 |nil=>rfl
 |cons x l ih=>rw[jE,ih,jo,jE];rfl
theorem Ue:fe au 25 26 (ah 0) 1 8:=⟨by kernel_rfl,by kernel_rfl,rfl,by decide⟩
section
variable {O w:ao} {F:HP} {k:Nat} {S:WS} {P:WP} {I:WI} {aj:Int} {H:dr} {κ:eA}
theorem akE {bj:List Hp.pP} {X:HP}:∀e∈bj.map Es,bd (Hp.mH bj*X) 1 e.p e.l.length (cO e.l):=by intro e he;obtain⟨q,hq,rfl⟩:=fC.1 he;obtain⟨i,hi⟩:=List.getElem?_of_mem hq;intro w0 w1 hs;rw[Hp.aiG hi] at hs;have h1:V w0 (own 3 1 q.p q.l.length q.c (q.l.flatMap Hp.fI)) w1:=hs.left.left;rw[akC] at h1;exact h1.rd
theorem WO.getRun (h:V O (WO P k S*F) w):V O (jn P.run S.run*(bT P k S*(iu P S*(iJ P S*(kD P k S*F))))) w:=h.aF (by rw[WO.run];ac_rfl)
theorem WO.Uf (q:Option fz) (h:V O (jn P.run q*(bT P k S*(iu P S*(iJ P S*(kD P k S*F))))) w):V O (WO P k {S with run:=q}*F) w:=by rw[WO.run];exact h.aF (by show jn P.run q*(bT P k S*(iu P S*(iJ P S*(kD P k S*F))))=bT P k S*(jn P.run q*(iu P S*(iJ P S*kD P k S)))*F;ac_rfl)
theorem akF {l:List Nat} {ws:aJ} (h:∀i∈l,i<ws.length):(l.filterMap λi=>ws[i]?)=l.map λi=>ws.getD i 0:=by
 induction l with
 |nil=>rfl
 |cons a l ih=>have ha:=h a (.head _);rw[List.filterMap_cons,jo,ih λi hi=>h i (.tail _ hi)];simp[ha]
theorem akG {N:Nat} {r:WS×Int} (hm:Gu S (N:Int)=some r) (h:V O (WH k I S*F) w):ae 52 #[al k,aa (N:Int)] w λv w'=>v=aa r.2/\V O (WH k I r.1*F) w':=by
 unfold Gu at hm;split at hm
 .cases hm
 rename_i hn;have Ek:1<=(N:Int):=lT.1 λe=>hn (.inl e);have Dl:(N:Int)<=1048576:=lT.1 λe=>hn (.inr e);rw[cu] at hm;obtain⟨S1,fW,hm⟩:=bZ.1 hm;obtain⟨r0,Aa,hm⟩:=bZ.1 hm;obtain⟨r1,fA,hm⟩:=bZ.1 hm;apply ZZ;refine aw (by simp;omega)<|aw (by simp;omega) ⟨λw'=>V O (WH k I S1*F) w',?_,?_⟩
 .obtain⟨P,hI,h⟩:=WH.aK h;refine aq<|bh (WO.cell (i:=10) h rfl) ?_;split at fW
  .rename_i q hq;cases fW;have qM:=WO.getRun h;rw[hq] at qM;cases BY:P.run with
   |none=>rw[BY] at qM;exact(V.bM (qM:V O (bM False*_) w)).elim
   |some kr=>exact aw rfl (WH.aI hI h)
  .rename_i hq;obtain⟨g,hg,rfl⟩:=dd.1 fW;have qM:=WO.getRun h;rw[hq] at qM;cases BY:P.run with
   |some kr=>rw[BY] at qM;exact(V.bM (qM:V O (bM False*_) w)).elim
   |none=>
    obtain⟨hi,a,PP,h1⟩:=gF.aK (WO.wC h);obtain⟨e1,e2,e3⟩:=akw hi hg;have xX:=hi.topB.bn;have wh:=Hp.SG hi.ok;refine aW rfl<|aq<|bh (WO.cell (i:=1) h rfl)<|ay (Hp.aiJ h1 hi) ?_;rintro v w1 ⟨pc,cc,pe,ce,pw,cw,bj,qI,rfl,h2⟩;obtain⟨M,hM⟩:∃M,M=(Hp.fu S.heap).length:=⟨_,rfl⟩;have tu:bj.length=M:=by have:=congrArg List.length qI;simpa[hM] using this
    have j8:((Hp.fu S.heap).map (Hp.oW S.heap)).length=M:=by rw[fk,hM]
    have eG:Hp.sO pc cc pe ce ((Hp.fu S.heap).map (Hp.oW S.heap)) bj=aE 108 1 Hp.ow pc M cc ((Hp.fu S.heap).map (Hp.oW S.heap))*(aE 167 1 Hp.oy pe M ce bj*Hp.mH bj):=by unfold Hp.sO;rw[j8,tu]
    rw[eG,<-hM] at h2;rw[<-hM];have h3:V O (WO P k S*(aE 108 1 Hp.ow pc M cc ((Hp.fu S.heap).map (Hp.oW S.heap))*(aE 167 1 Hp.oy pe M ce bj*(Hp.mH bj*(aE 26 1 bS pw M cw (Hp.fu S.heap)*F))))) w1:=WO.zy S.heap (gF.aI hi (h2.aF (B:=Hp.HH P.heap a 1048576 PP S.heap*(bT P k S*(tR P k S*(aE 108 1 Hp.ow pc M cc ((Hp.fu S.heap).map (Hp.oW S.heap))*(aE 167 1 Hp.oy pe M ce bj*(Hp.mH bj*(aE 26 1 bS pw M cw (Hp.fu S.heap)*F))))))) (by ac_rfl)));refine⟨_,_,_,_,rfl,aG h3 λk9 w2 h4=>bL h4 rfl rfl (by simp[Value.oneCell']) λw3 h5=> ?_⟩;obtain⟨B,hB⟩:∃B:HP,B=ab k9 #[af pc M cc,af pe M ce] 257*(WO P k S*(aE 108 1 Hp.ow pc M cc ((Hp.fu S.heap).map (Hp.oW S.heap))*(aE 167 1 Hp.oy pe M ce bj*(Hp.mH bj*(aE 26 1 bS pw M cw (Hp.fu S.heap)*F))))):=⟨_,rfl⟩;have h5:V O B w3:=by rw[hB];exact h5
    refine⟨λp l c x w' m=>∃j:Nat,x=j/\j<=M/\m=M- j/\j=l/\V O (own 3 1 p j c (dx (List.range j))*B) w',⟨_,0,rfl,by omega,rfl,rfl,(V.iZ 3 1 h5)⟩,?_⟩;clear h1 h2 h3 h4 h5 qM h;rintro u p _ c _ w4 m ⟨j,rfl,hj,rfl,rfl,h6⟩;refine bU (λaQ=> ?_) (λbW=> ?_)
    .refine aG h6 λmh w5 h7=>oG MO h7 rfl (by simp only[maxLen];omega) (by omega) λp' c' w6 h8=>aY (by omega) (by omega) ⟨_,by omega,j+1,by omega,by omega,rfl,rfl,?_⟩;have e:dx (List.range (j+1))=dx (List.range j)++[aa (j:Int)]:=by simp[dx,List.range_succ]
     rw[e];exact h8
    have ej:j=M:=by omega
    rw[ej] at h6 ⊢;have h6:V O (ab k9 #[af pc M cc,af pe M ce] 257*(aE 108 1 Hp.ow pc M cc ((Hp.fu S.heap).map (Hp.oW S.heap))*(aE 167 1 Hp.oy pe M ce bj*(Hp.mH bj*(own 3 1 p M c (dx (List.range M))*(WO P k S*(aE 26 1 bS pw M cw (Hp.fu S.heap)*F))))))) w4:=h6.aF (by rw[hB];ac_rfl);have CP:∀c∈(Hp.fu S.heap).map (Hp.oW S.heap),0<=c/\c<=4294967295:=by intro c hc;obtain⟨x,hx,rfl⟩:=fC.1 hc;obtain⟨o,ho,_⟩:=Hp.L3 hi.ok hx;have:=(hi.fN x o ho).cn;unfold Hp.oW;rw[ho];dsimp only;omega
    have hre:∀e∈bj.map Es,e.l.length<=5000:=by intro e he;obtain⟨q,hq,rfl⟩:=fC.1 he;have Ug:q.l∈bj.map (·.l):=fC.2 ⟨q,hq,rfl⟩;rw[qI,fC] at Ug;obtain⟨x,_,hx⟩:=Ug;have:=Hp.SH hi (Hp.fu S.heap) (h:=x);show q.l.length<=5000;rw[<-hx];omega
    refine bz h6 rfl<|ay (ahq (bj:=bj.map Es) j8 (by rw[fk,tu]) (by omega) CP hre (by rw[<-akB];exact bd.right (bd.left bd.own)) (by rw[<-akD];exact bd.right (bd.right (bd.left bd.own))) (λe he=>bd.right (bd.right (bd.right (akE e he)))) (bd.right (bd.right (bd.right (bd.right (bd.left bd.own))))) h6) ?_;rintro _ w7 ⟨kr,rfl,h7⟩;have eR:rJ ((Hp.fu S.heap).map (Hp.oW S.heap)) ((bj.map Es).map λe=>gD M e.l)=rJ g.1 g.2.1:=by rw[e2,e3,<-hM,<-qI,lq,lq];rfl
    rw[eR] at h7;rw[e1];have h8:V O (bT P k S*(dt kr (rJ g.1 g.2.1)*(iJ P S*(kD P k S*(aE 26 1 bS pw M cw (Hp.fu S.heap)*F))))) w7:=(h7.aF (B:=(ab k9 #[af pc M cc,af pe M ce] 257*(aE 108 1 Hp.ow pc M cc ((Hp.fu S.heap).map (Hp.oW S.heap))*(aE 167 1 Hp.oy pe M ce bj*(Hp.mH bj*(own 3 1 p M c (dx (List.range M))*(jn P.run S.run*iu P S))))))*(bT P k S*(dt kr (rJ g.1 g.2.1)*(iJ P S*(kD P k S*(aE 26 1 bS pw M cw (Hp.fu S.heap)*F)))))) (by rw[WO.run];ac_rfl)).right;obtain⟨P2,kY⟩:∃P2:WP,P2={P with run:=some kr,wp:=pw,wc:=cw}:=⟨_,rfl⟩;obtain⟨S2,gu⟩:∃S2:WS,S2={S with run:=some (rJ g.1 g.2.1),jM:=Hp.fu S.heap}:=⟨_,rfl⟩;have ew:iu P2 S2=aE 26 1 bS pw M cw (Hp.fu S.heap):=by rw[kY,gu];unfold iu aE;rw[Ud,hM]
    have et:iJ P2 S2=iJ P S:=by rw[kY,gu];rfl
    have ex:kD P2 k S2=kD P k S:=by rw[kY,gu];rfl
    have er:jn P2.run S2.run=dt kr (rJ g.1 g.2.1):=by rw[kY,gu];rfl
    have eS:({S with run:=some (rJ g.1 g.2.1),jM:=Hp.fu S.heap}:WS)=S2:=gu.symm;rw[eS];refine gK<|aq<|bT.set (P':={P with run:=some kr}) (S':={S with run:=some (rJ g.1 g.2.1)}) (i:=10) (by decide) h8 rfl rfl rfl rfl rfl (by simp) λw8 h9=>aq<|bT.set (P':=P2) (S':=S2) (i:=11) (by decide) h9 (by rw[kY]) (by rw[kY]) (by rw[kY]) (by rw[kY]) (by rw[gu]) (by rw[kY,gu];simp[hM]) λw9 aV=> ?_;refine WH.aI (P:=P2) (by rw[kY];exact hI) ?_;rw[WO.run,ew,et,ex,er];generalize bT P2 k S2=A1 at aV ⊢;generalize dt kr (rJ g.1 g.2.1)=A2 at aV ⊢;exact aV.aF (by ac_rfl)
 clear fW h;rintro u dn h1;obtain⟨P,hI,h1⟩:=WH.aK h1;obtain⟨kr,Et,h2⟩:∃kr,P.run=some kr/\V O (dt kr r0*(bT P k S1*(iu P S1*(iJ P S1*(kD P k S1*F))))) dn:=by
  have qM:=WO.getRun h1;rw[Aa] at qM;cases BY:P.run with
  |none=>rw[BY] at qM;exact(V.bM (qM:V O (bM False*_) dn)).elim
  |some kr=>rw[BY] at qM;exact⟨kr,rfl,qM⟩
 have HK:dn.cell? ((aD k).add 15)=some (al kr):=by have:=WO.cell (i:=10) h1 rfl;rw[Et] at this;exact this
 refine aq<|bh HK<|ay (ahk (by omega) fA h2) ?_;rintro _ dP ⟨rfl,h3⟩;have h3:V O (WO P k {S1 with run:=some r1}*F) dP:=WO.Uf (some r1) (by rw[Et];exact h3);split at hm
 .rename_i e3;cases hm;exact cR<|aW (by simpa using e3) ⟨rfl,WH.aI hI h3⟩
 rename_i e3;have e3:r1.mU=3:=iA.1 e3;dsimp only at hm;split at hm
 .cases hm
 rename_i hc;have c1:∀i∈r1.da,i<S1.jM.length:=by
  have:r1.da.all (λi=>decide (i<S1.jM.length))=true:=by
   cases q:r1.da.all (λi=>decide (i<S1.jM.length)) with
   |true=>rfl
   |false=>exact absurd (.inl q) hc
  intro i hi;simpa using se.1 this i hi
 have c2:r1.da.length<=1000:=Nat.not_lt.1 λe=>hc (.inr (.inl e));obtain⟨out,qg⟩:∃out,out=r1.da.filterMap λi=>S1.jM[i]?:=⟨_,rfl⟩;rw[<-qg] at hm hc;have c3:∀x∈out,0<=x/\x<=18446744073709551615:=by
  intro x hx;refine tT ?_;cases q:hB x with
  |true=>rfl
  |false=>exact absurd (.inr (.inr (Cg.2 ⟨x,hx,by simp[q]⟩))) hc
 rw[akF c1] at qg;have Ep:out.length=r1.da.length:=by rw[qg,fk]
 obtain⟨S',lV,rfl⟩:=dd.1 hm;have HK:dP.cell? ((aD k).add 15)=some (al kr):=by have:=WO.cell (i:=10) h3 rfl;rw[Et] at this;exact this
 have h4:=WO.getRun h3;rw[Et] at h4;refine cR<|aw (by simp[e3])<|aq<|bh HK<|ay (ahm e3 (by omega) h4) ?_;rintro _ fF ⟨q,d,rfl,h5⟩;have h6:V O (own 3 1 q r1.da.length d (dx r1.da)*(WO P k {S1 with run:=some r1}*F)) fF:=by
  have h7:V O (jn P.run (some r1)*(bT P k {S1 with run:=some r1}*(iu P {S1 with run:=some r1}*(iJ P {S1 with run:=some r1}*(kD P k {S1 with run:=some r1}*(own 3 1 q r1.da.length d (dx r1.da)*F)))))) fF:=by rw[Et];exact h5.aF (by show _=dt kr r1*_;ac_rfl)
  exact(WO.Uf (S:={S1 with run:=some r1}) (some r1) h7).p1
 refine iE ⟨λp l c x w' m=>∃j:Nat,x=j/\j<=r1.da.length/\m=r1.da.length- j/\j=l/\V O (aE 26 1 bS p j c (out.take j)*(own 3 1 q r1.da.length d (dx r1.da)*(WO P k {S1 with run:=some r1}*F))) w',⟨_,0,rfl,by omega,rfl,rfl,fE 26 1 bS h6⟩,?_⟩;clear h1 h2 h3 h4 h5 h6 HK;rintro u p _ c _ fZ m ⟨j,rfl,hj,rfl,rfl,h6⟩;refine bU (λaQ=> ?_) (λbW=> ?_)
 .have iM:j<r1.da.length:=by omega
  obtain⟨x,hx⟩:∃x,r1.da[j]?=some x:=⟨_,gm iM⟩;have C9:=c1 x (dF hx);have hy:S1.jM[x]?=some (S1.jM.getD x 0):=by simp[C9]
  have si:out[j]?=some (S1.jM.getD x 0):=by rw[qg,eZ,hx];rfl
  have fQ:=h6.p1.left.rd;have h7:V O (WO P k {S1 with run:=some r1}*(aE 26 1 bS p j c (out.take j)*(own 3 1 q r1.da.length d (dx r1.da)*F))) fZ:=h6.aF (by ac_rfl);have Uh:Rd fZ 1 P.wp S1.jM.length (pQ S1.jM):=by have h8:=WO.getRun h7;exact V.rd (t:=26) (c:=P.wc) h8.right.right.left
  refine fM fQ (by omega) (by omega) λa ha=>az (n:=(x:Int)) ?_<|aq<|aN (WO.cell (i:=11) h7 rfl)<|fM Uh (by omega) (by show(x:Int)<(S1.jM.length:Int);omega) λa2 yw=>az (n:=S1.jM.getD x 0) ?_<|aG h6 λk46 dH h9=> ?_
  .rw[cu,jT];exact fQ.get ha (G6 hx)
  .rw[cu,jT];exact Uh.get yw (by rw[pQ,eZ,hy];rfl)
  .refine ju Ue gL (by decide) uu (x:=S1.jM.getD x 0) h9 rfl (by simp only[maxLen];omega) (by omega) λp' c' kQ aV=>aY (by omega) (by omega) ⟨_,by omega,j+1,by omega,by omega,rfl,rfl,?_⟩;have e:out.take (j+1)=out.take j++[S1.jM.getD x 0]:=by rw[fV,si];rfl
   rw[e];exact aV
 have ej:j=out.length:=by omega
 subst ej;rw[j4] at h6;have h7:V O (WO P k {S1 with run:=some r1}*(aE 26 1 bS p out.length c out*(own 3 1 q r1.da.length d (dx r1.da)*F))) fZ:=h6.aF (by ac_rfl);refine aq<|WO.clear h7 λnM h8=> ?_;have tU:({P with run:=none}:WP).im=I:=hI;obtain⟨hi,a,PP,h9⟩:=gF.aK (WO.wC h8);refine aq<|bh (WO.cell (i:=1) h8 rfl)<|ay (Hp.aih (l:=out) h9 hi ?_ (by omega) c3) ?_
 .have e:Hp.oo out=out.flatMap bS:=by rw[Ud];rfl
  rw[e];exact bd.right (bd.right (bd.left bd.own))
 rintro v nN ho;obtain⟨p',l',c',q',m',d',e',rfl,_,Ec⟩:=Mn (P:={P with run:=none}) (S:={{S1 with run:=some r1} with run:=none}) (I:=I) (aj:=0) lV akA hi tU ho;refine⟨_,_,_,_,_,_,_,rfl,ay Ec ?_⟩;rintro _ nL ⟨rfl,aV⟩;exact⟨rfl,rfl,aV.p1.right.p1.right⟩
end
theorem Ui (r:kX):(Rf.bP r).toArray[18]?=some (aH r.cn):=by
 have hl:(bc (Rf.zt r.bm)).length=16:=by rw[dh,Rf.LJ]
 rw[kI];unfold Rf.bP;rw[ix (by simp),ix (by simp[hl])];simp[hl]
theorem akI (r:kX) (c:Int):(Rf.bP r).toArray.setIfInBounds 18 (aH c)=(Rf.bP {r with cn:=c}).toArray:=by
 have hl:(bc (Rf.zt r.bm)).length=16:=by rw[dh,Rf.LJ]
 apply cT;rw[rZ];show(Rf.bP r).set 18 _=Rf.bP {r with cn:=c};unfold Rf.bP;rw[lp _ _ (by simp),lp _ _ (by simp[hl])];simp[hl]
theorem Uj (r:kX):(Rf.bP r).toArray.extract 0 (0+2)=fv r.lk:=by apply cT;simp[Rf.bP,fv]
section
variable {O w:ao} {F:HP} {k:Nat} {S:WS} {P:WP} {I:WI} {aj:Int} {H:dr} {κ:eA}
theorem jC.aK {b:Nat} {s:AS (Int×OR)} (h:V O (jC b s*F) w):∃a,bx s/\V O (Gi.Gt b a s*F) w:=by obtain⟨a,h⟩:=h.ex;have h:=h.a;exact⟨a,h.bM,h.right⟩
theorem jC.aI {b a:Nat} {s:AS (Int×OR)} (hs:bx s) (h:V O (Gi.Gt b a s*F) w):V O (jC b s*F) w:=V.bO a ((V.eL hs h).g1)
theorem Uk {a:nq} {A:aM} {x:kX} {r:WS×Int} (hA:wF a A) (mu:hB a.dR=true) (wG:hB a.ed=true) (hH:ch S a.aj=some H) (hx:bg H.fi a.dR=some x) (hm:Ki S a H x=some r) (h:V O (WH k I S*F) w): ae 125 #[al k,aa a.aj,an A,an (Rf.bP x).toArray] w λv w'=>v=aa r.2/\V O (WH k I r.1*F) w':=by
 have mu:=tT mu;obtain⟨P,hI,h⟩:=WH.aK h;obtain⟨κ,bB,h0⟩:=WO.pR hH h;unfold Ki at hm;apply aaj;refine aG h λk1 w1 h1=>aG h1 λk2 w2 h2=> ?_;have h2:V O (WO P k S*(ab k2 (Rf.bP x).toArray 141*(ab k1 A 35*F))) w2:=h2.p2;have fin:∀{w':ao} {S':WS} {B:aM},V O (WH k I S'*(ab k2 B 141*(ab k1 A 35*F))) w'->V O (WH k I S'*F) w':=λhs=>hs.p1.right.p1.right;refine aq<|aN (WO.cell (i:=0) h2 rfl)<|WO.lj h2 bB h0<|az (n:=a.kind) (aB h2.p2 hA.kind) ?_;split at hm
 .rename_i e;split at hm
  .cases hm
  rename_i hc;have jH:1<=x.cn:=lT.1 λq=>hc (.inl q);have pL:x.cn<=1000000:=lT.1 λq=>hc (.inr q);have h3:V O (ab k2 (Rf.bP x).toArray 141*(WO P k S*(ab k1 A 35*F))) w2:=h2.p1;refine aw (by simp[e])<|aW (by simp[e])<|az (n:=x.cn) (aB h3 (Ui x))<|gX (by omega) (by omega) ?_;rw[du,dc];refine bD (i:=18) h3 (by rw[Rf.dw];decide) λw5 h4=> ?_;rw[akI] at h4;obtain⟨y,hy⟩:∃y:kX,y={x with cn:=x.cn- 1}:=⟨_,rfl⟩;have h4:V O (WO P k S*(ab k2 (Rf.bP y).toArray 141*(ab k1 A 35*F))) w5:=by rw[hy];exact h4.p1
  have Qi:y.cn=x.cn- 1:=by rw[hy]
  have hd:=h4.drew;obtain⟨Y,Ul,h5,bt⟩:=WO.fi hH bB hd;obtain⟨ho,h6⟩:=ji.aK h5;have ng:w5.cell? ⟨k2,18,none⟩=some (aH y.cn):=by have:=aB h4.p1 (Ui y);rwa[du,dc] at this
  refine az (n:=y.cn) ng ?_;split at hm
  .rename_i CK;cases hm;refine aW (by simp;omega)<|aq<|bh Ul<|az (n:=a.dR) (aB hd.p2 hA.dR)<|bz hd.p1 (Rf.dw y)<|ay (ahH h6 ho mu.1 mu.2 (by rw[hx];rfl)) ?_;rintro _ w6 ⟨rfl,h7⟩;refine bI ⟨rfl,?_⟩;have h8:=bt _ _ (ji.aI (bx.up ho) h7);rw[hy] at h8;exact fin (WH.aI hI h8)
  .rename_i hle;obtain⟨S',lV,rfl⟩:=dd.1 hm;refine aw (by simp;omega)<|aq<|bh Ul<|az (n:=a.dR) (aB hd.p2 hA.dR)<|ay (Rf.tE h6 ho mu.1 mu.2) ?_;rintro _ w6 ⟨rfl,h7⟩;have h8:=bt _ _ (ji.aI (bx.cI ho a.dR) h7);refine⟨_,_,rfl,ff h8.p1 (by simp[Rf.dJ]) ?_⟩;rw[Uj];have G5:y.lk=x.lk:=by rw[hy]
   rw[G5];refine ay (BP lV (WH.aI hI h8)) ?_;rintro _ w7 ⟨rfl,h9⟩;exact⟨rfl,rfl,fin h9⟩
 rename_i e3;split at hm
 .rename_i e;have Mq:x.bm.length=16:=by
   unfold Gp at hm;obtain⟨_,_,hm⟩:=bZ.1 hm;split at hm
   .cases hm
   rename_i hc;cases hq:vX x.bm with
   |true=>exact(Eb hq).1
   |false=>exact absurd (.inr (.inr hq)) hc
  refine aw (by simp[e])<|aw (by simp[e])<|aw (by simp[e])<|aW (by simp[e])<|bz h2.p1 (Rf.dw x)<|bz h2.p2 hA.sz<|ay (aj0 hA.ed hA.n hA.pG wG Mq hm (WH.aI hI h2)) ?_;rintro _ w3 ⟨rfl,h3⟩;exact bI ⟨rfl,fin h3⟩
 rename_i e5;split at hm
 .rename_i e;split at hm
  .cases hm
  rename_i hn;have hn:a.n=0:=iA.1 hn;obtain⟨q,hq,hm⟩:=bZ.1 hm;dsimp only at hm;split at hm
  .cases hm
  rename_i hz;have hz:=iA.1 hz;obtain⟨S',lV,rfl⟩:=dd.1 hm;have vl:=hA.n;rw[hn] at vl;refine aw (by simp[e])<|aw (by simp[e])<|aw (by simp[e])<|aw (by simp[e])<|aW (by simp[e])<|az (n:=0) (aB h2.p2 vl)<|aw (by decide)<|az (n:=0) (aB h2.p2 vl)<|aw (by decide)<|bz h2.p1 (Rf.dw x)<|az (n:=0) (aB h2.p2 vl)<|gX (by decide) (by decide)<|ay (To hq (WH.aI hI h2)) ?_;rintro _ dP ⟨rfl,h3⟩;refine⟨_,_,rfl,aG h3 λRp fF h4=>bL h4 rfl (dq q.2.2) (by simpa[cS] using mR q.2) λfZ h5=>aw rfl ?_⟩;obtain⟨P2,zJ,h6⟩:=WH.aK h5.p1;have hd:=h6.drew;obtain⟨ho,h7⟩:=jm.aK (WO.Hu hd);refine aq<|bh (WO.cell (i:=8) hd rfl)<|bz hd.p1 (dq q.2.2) ⟨dq q.2.2,?_⟩;have el:((#[]++bF q.2.1)++#[aa a.aj])=(Lt.bP ⟨q.2,a.aj⟩).toArray:=by apply cT;simp[Lt.bP,cS]
  rw[el];refine ay (Lt.tD h7 ho) ?_;rintro _ dH ⟨rfl,h8⟩;have h9:=WO.Mj _ (jm.aI (bx.put ho _) h8);refine⟨_,_,rfl,aw (by simp[hz])<|ay (x6 (t:=⟨1,(put q.1.di ⟨q.2,a.aj⟩).2.1,0,0,0,0⟩) lV (WH.aI zJ h9)) ?_⟩;rintro _ kQ ⟨rfl,aV⟩;exact⟨rfl,rfl,fin (aV.p1.right)⟩
 rename_i e6;split at hm;rotate_left
 .cases hm
 rename_i e;obtain⟨q,hq,hm⟩:=bZ.1 hm;split at hm
 .cases hm
 rename_i iQ;dsimp only at hm;split at hm
 .cases hm
 rename_i hz;have hz:=iA.1 hz;obtain⟨S',lV,rfl⟩:=dd.1 hm;refine aw (by simp[e])<|aw (by simp[e])<|aw (by simp[e])<|aw (by simp[e])<|aw (by simp[e])<|aW (by simp[e])<|bz h2.p1 (Rf.dw x)<|ay (To hq (WH.aI hI h2)) ?_;rintro _ nN ⟨rfl,h3⟩;refine⟨_,_,rfl,aG h3 λk64 nL h4=>bL h4 rfl (dq q.2.2) (by simpa[cS] using mR q.2) λrp h5=>aw rfl ?_⟩;obtain⟨P2,zJ,h6⟩:=WH.aK h5.p1;have hd:=h6.drew;obtain⟨ga,ho,h7⟩:=jC.aK (WO.Mg hd);refine aq<|bh (WO.cell (i:=4) hd rfl)<|bz hd.p1 (dq q.2.2)<|ay (Gi.aeM (o:=a.aj) (x:=q.2) h7 ho) ?_;have eg:Gi.qE q.1.dG a.aj q.2=put q.1.dG (a.aj,q.2):=by unfold Gi.qE;rw[if_neg iQ]
 rw[eg];rintro _ qt ⟨rfl,h8⟩;have h9:=WO.Mh _ (jC.aI (bx.put ho _) h8);refine⟨_,_,rfl,aw (by simp[hz])<|ay (x6 (t:=⟨1,(put q.1.dG (a.aj,q.2)).2.1,0,0,0,0⟩) lV (WH.aI zJ h9)) ?_⟩;rintro _ tr ⟨rfl,aV⟩;exact⟨rfl,rfl,fin (aV.p1.right)⟩
end
section
variable {O w:ao} {F:HP} {k:Nat} {S:WS} {P:WP} {I:WI} {aj:Int} {H:dr} {κ:eA}
theorem akJ (hh:V O (lM k*F) w):ae 121 #[al k,ah 0] w λv w'=>v=ak #[ah 0,aC false,aa 2]/\V O (lM k*F) w':=by
 obtain⟨a,h1⟩:=hh.ex;have h1:=h1.a;apply Yc;refine aw rfl<|aq<|bh (aB h1 (i:=0) rfl) ?_;refine ay (K:=λv w'=>v=ak #[an #[aa 0,.string ByteArray.empty,ah 0,aC false],aa 2]/\V O (lM k*F) w') ?_ ?_
 .apply Xm;refine aG h1 λk1 w1 h2=>aG h2 λk2 w2 h3=>ay (K:=λv w'=>v=ak #[ag none,aa 0]/\w'=w2) ?_ ?_
  .apply Xu;exact fY (Rf.sE (h:=0) (by decide) (by decide)) ⟨_,_,rfl,aw rfl<|aW rfl ⟨rfl,rfl⟩⟩
  rintro _ w3 ⟨rfl,rfl⟩;exact⟨_,_,rfl,aW rfl<|bz h3 rfl<|bL h3.p1 rfl rfl (by simp[Value.oneCell']) λw4 h4=>bz h4 rfl ⟨rfl,V.bO a (h4.right.right.g1)⟩⟩
 rintro _ w1 ⟨rfl,h2⟩;exact⟨_,_,rfl,aG h2 λk6 w2 h3=>bL h3 rfl rfl (by simp[Value.oneCell']) λw3 h4=>az (n:=0) (aB h4.drew (i:=2) rfl)<|gQ (n:=false) (aB h4.drew (i:=3) rfl) ⟨rfl,h4.drew.right⟩⟩
theorem Um {hn:Int} {l:tH} (h0:0<=hn) (h1:hn<=18446744073709551615) (hp:bg S.di hn=some l) (h:V O (WO P k S*F) w):ae 113 #[al P.di,ah hn] w λv w'=>v=ak #[an (Lt.bP l).toArray,aa 0]/\V O (WO P k S*F) w':=by
 obtain⟨ho,h2⟩:=jm.aK (WO.Hu h);refine ay (Lt.tC h2 ho h0 h1) ?_;rintro v w' ⟨h3,hv⟩;have hq:=MJ (s:=S.di) (h:=hn);split at hv
 .rename_i e;rw[e] at hq;rw[show bg S.di hn=none from hq] at hp;cases hp
 .rename_i y e;rw[e] at hq;rw[show bg S.di hn=some y.x from hq] at hp;cases hp;exact⟨hv,WO.Mj S.di (jm.aI ho h3)⟩
theorem Un {hn:Int} {x:Int×OR} (h0:0<=hn) (h1:hn<=18446744073709551615) (hp:bg S.dG hn=some x) (h:V O (WO P k S*F) w):ae 116 #[al P.dG,ah hn] w λv w'=>v=ak #[an (bF x.2.1),aa 0]/\V O (WO P k S*F) w':=by
 obtain⟨a,ho,h2⟩:=jC.aK (WO.Mg h);refine ay (Gi.aeN h2 ho h0 h1) ?_;rintro v w' ⟨h3,hv⟩;have hq:=MJ (s:=S.dG) (h:=hn);split at hv
 .rename_i e;rw[e] at hq;rw[show bg S.dG hn=none from hq] at hp;cases hp
 .rename_i y e;rw[e] at hq;rw[show bg S.dG hn=some y.x from hq] at hp;cases hp;exact⟨hv,WO.Mh S.dG (jC.aI ho h3)⟩
theorem HL {hn:Int} (h0:0<=hn) (h1:hn<=18446744073709551615) (h:V O (WO P k S*F) w):ae 118 #[al P.dG,ah hn] w λv w'=>v=ak #[an (bF (cI ((0:Int),jW) S.dG hn).2.1.2.1),aa (cI ((0:Int),jW) S.dG hn).2.2]/\V O (WO P k {S with dG:=(cI (0,jW) S.dG hn).1}*F) w':=by obtain⟨a,ho,h2⟩:=jC.aK (WO.Mg h);refine ay (Gi.aeO h2 ho h0 h1) ?_;rintro _ w' ⟨rfl,h3⟩;exact⟨rfl,WO.Mh _ (jC.aI (bx.cI ho hn) h3)⟩
theorem akK {a:nq} {A:aM} {r:WS×Int} (hA:wF a A) (mu:hB a.dR=true) (wG:hB a.ed=true) (hH:ch S a.aj=some H) (hm:Kj S a=some r) (h:V O (WH k I S*F) w): ae 60 #[al k,aa a.aj,an A] w λv w'=>v=aa r.2/\V O (WH k I r.1*F) w':=by
 have hr:=tT mu;have gZ:=tT wG;obtain⟨P,hI,h⟩:=WH.aK h;obtain⟨κ,bB,h0⟩:=WO.pR hH h;unfold Kj at hm;apply Z3;refine aG h λk1 w1 h1=> ?_;have h1:V O (WO P k S*(ab k1 A 35*F)) w1:=h1.p1;have hd:=h1.drew;have fin:∀{w':ao} {S':WS},V O (WH k I S'*(ab k1 A 35*F)) w'->V O (WH k I S'*F) w':=λhs=>hs.p1.right;refine aq<|aN (WO.cell (i:=0) h1 rfl)<|WO.lj h1 bB h0<|az (n:=a.kind) (aB h1.p1 hA.kind) ?_;split at hm
 .rename_i e;split at hm
  .cases hm
  rename_i hz;have uj:=hA.dR;rw[iA.1 hz] at uj;refine aW (by simp[e])<|bz h1.p1 hA.sz<|ay (IL uj (hA.id e) (by rw[hA.sz];decide) hm (WH.aI hI h1)) ?_;rintro _ w2 ⟨rfl,h2⟩;exact bI ⟨rfl,fin h2⟩
 rename_i e1;refine aw (by simpa using e1) ?_;split at hm
 .rename_i e;split at hm
  .cases hm
  rename_i l hl;refine aW (by simp[e])<|aq<|bh (WO.cell (i:=8) hd rfl)<|az (n:=a.ed) (aB hd.p1 hA.ed) ⟨?_,?_⟩
  .refine ay (Um gZ.1 gZ.2 hl hd) ?_;rintro _ w3 ⟨rfl,h3⟩;refine⟨_,_,rfl,aG h3 λmh w4 h4=>bL h4 rfl (Lt.dw l) (Lt.fJ l) λw5 h5=>aw rfl<|az (n:=a.ed) (aB h5.p2 hA.ed)<|bz h5 (Lt.dw l)<|ay (Tu hl hm (WH.aI hI h5.p1)) ?_⟩;rintro _ w6 ⟨rfl,h6⟩;exact bI ⟨rfl,fin (h6.p1.right)⟩
  .refine aG hd λvQ w4 h4=>ay (Um gZ.1 gZ.2 hl h4.p1) ?_;rintro _ w3 ⟨rfl,h3⟩;refine⟨_,_,rfl,bL h3.p1 rfl (Lt.dw l) (Lt.fJ l) λw5 h5=>aw rfl<|az (n:=a.ed) (aB h5.p2 hA.ed)<|bz h5 (Lt.dw l)<|ay (Tu hl hm (WH.aI hI h5.p1)) ?_⟩;rintro _ w6 ⟨rfl,h6⟩;exact bI ⟨rfl,fin (h6.p1.right)⟩
 rename_i e7;refine aw (by simpa using e7) ?_;split at hm
 .rename_i e;refine aW (by simp[e])<|aq<|bh (WO.cell (i:=8) hd rfl)<|az (n:=a.ed) (aB hd.p1 hA.ed) ?_;split at hm
  .rename_i hl;cases hm;have Eu:=TO (z:=tJ) hl;refine⟨?_,?_⟩
   .refine ay (Ef gZ.1 gZ.2 hd) ?_;rw[Eu];rintro _ w3 ⟨rfl,h3⟩;exact⟨_,_,rfl,aG h3 λmh w4 h4=>bL h4 rfl (Lt.dw _) (Lt.fJ _) λw5 h5=>aW rfl ⟨rfl,fin (WH.aI hI h5.right)⟩⟩
   .refine aG hd λvQ w4 h4=>ay (Ef gZ.1 gZ.2 h4.p1) ?_;rw[Eu];rintro _ w3 ⟨rfl,h3⟩;exact⟨_,_,rfl,bL h3.p1 rfl (Lt.dw _) (Lt.fJ _) λw5 h5=>aW rfl ⟨rfl,fin (WH.aI hI h5.right)⟩⟩
  .rename_i l hl;obtain⟨S',lV,rfl⟩:=dd.1 hm;obtain⟨d1,d2⟩:=TP (z:=tJ) hl;refine⟨?_,?_⟩
   .refine ay (Ef gZ.1 gZ.2 hd) ?_;rw[d1,d2];rintro _ w3 ⟨rfl,h3⟩;refine⟨_,_,rfl,aG h3 λmh w4 h4=>bL h4 rfl (Lt.dw _) (Lt.fJ _) λw5 h5=>aw rfl<|ff h5 (by simp[Lt.dJ]) ?_⟩;rw[Mx];refine ay (Hz lV (WH.aI hI h5.p1)) ?_;rintro _ w6 ⟨rfl,h6⟩;exact⟨rfl,rfl,fin (h6.p1.right)⟩
   .refine aG hd λvQ w4 h4=>ay (Ef gZ.1 gZ.2 h4.p1) ?_;rw[d1,d2];rintro _ w3 ⟨rfl,h3⟩;refine⟨_,_,rfl,bL h3.p1 rfl (Lt.dw _) (Lt.fJ _) λw5 h5=>aw rfl<|ff h5 (by simp[Lt.dJ]) ?_⟩;rw[Mx];refine ay (Hz lV (WH.aI hI h5.p1)) ?_;rintro _ w6 ⟨rfl,h6⟩;exact⟨rfl,rfl,fin (h6.p1.right)⟩
 rename_i e8;refine aw (by simpa using e8) ?_;split at hm
 .rename_i e;split at hm
  .cases hm
  rename_i x hx;refine aW (by simp[e])<|aq<|bh (WO.cell (i:=4) hd rfl)<|az (n:=a.ed) (aB hd.p1 hA.ed) ⟨?_,?_⟩
  .refine ay (Un gZ.1 gZ.2 hx hd) ?_;rintro _ w3 ⟨rfl,h3⟩;refine⟨_,_,rfl,aG h3 λmh w4 h4=>bL h4 rfl (dq x.2.2) (by simpa[cS] using mR x.2) λw5 h5=>aw rfl<|bz h5 (dq x.2.2)<|ay (Tt hm (WH.aI hI h5.p1)) ?_⟩;rintro _ w6 ⟨rfl,h6⟩;exact bI ⟨rfl,fin (h6.p1.right)⟩
  .refine aG hd λvQ w4 h4=>ay (Un gZ.1 gZ.2 hx h4.p1) ?_;rintro _ w3 ⟨rfl,h3⟩;refine⟨_,_,rfl,bL h3.p1 rfl (dq x.2.2) (by simpa[cS] using mR x.2) λw5 h5=>aw rfl<|bz h5 (dq x.2.2)<|ay (Tt hm (WH.aI hI h5.p1)) ?_⟩;rintro _ w6 ⟨rfl,h6⟩;exact bI ⟨rfl,fin (h6.p1.right)⟩
 rename_i e10;refine aw (by simpa using e10) ?_;split at hm
 .rename_i e;refine aW (by simp[e])<|aq<|bh (WO.cell (i:=4) hd rfl)<|az (n:=a.ed) (aB hd.p1 hA.ed) ?_;split at hm
  .rename_i hl;cases hm;have Eu:=TO (z:=((0:Int),jW)) hl;refine⟨?_,?_⟩
   .refine ay (HL gZ.1 gZ.2 hd) ?_;rw[Eu];rintro _ w3 ⟨rfl,h3⟩;exact⟨_,_,rfl,aG h3 λmh w4 h4=>bL h4 rfl (dq jW.2) (by simpa[cS] using mR jW) λw5 h5=>aw rfl ⟨rfl,fin (WH.aI hI h5.right)⟩⟩
   .refine aG hd λvQ w4 h4=>ay (HL gZ.1 gZ.2 h4.p1) ?_;rw[Eu];rintro _ w3 ⟨rfl,h3⟩;exact⟨_,_,rfl,bL h3.p1 rfl (dq jW.2) (by simpa[cS] using mR jW) λw5 h5=>aw rfl ⟨rfl,fin (WH.aI hI h5.right)⟩⟩
  .rename_i x hx;obtain⟨S',lV,rfl⟩:=dd.1 hm;obtain⟨d1,d2⟩:=TP (z:=((0:Int),jW)) hx;refine⟨?_,?_⟩
   .refine ay (HL gZ.1 gZ.2 hd) ?_;rw[d1,d2];rintro _ w3 ⟨rfl,h3⟩;refine⟨_,_,rfl,aG h3 λmh w4 h4=>bL h4 rfl (dq x.2.2) (by simpa[cS] using mR x.2) λw5 h5=>aW rfl<|bz h5 (dq x.2.2)<|ay (Hz lV (WH.aI hI h5.p1)) ?_⟩;rintro _ w6 ⟨rfl,h6⟩;exact⟨rfl,rfl,fin (h6.p1.right)⟩
   .refine aG hd λvQ w4 h4=>ay (HL gZ.1 gZ.2 h4.p1) ?_;rw[d1,d2];rintro _ w3 ⟨rfl,h3⟩;refine⟨_,_,rfl,bL h3.p1 rfl (dq x.2.2) (by simpa[cS] using mR x.2) λw5 h5=>aW rfl<|bz h5 (dq x.2.2)<|ay (Hz lV (WH.aI hI h5.p1)) ?_⟩;rintro _ w6 ⟨rfl,h6⟩;exact⟨rfl,rfl,fin (h6.p1.right)⟩
 rename_i e11;refine aw (by simpa using e11) ?_;split at hm
 .rename_i e;split at hm;rotate_left
  .cases hm
  rename_i hz;cases hm;have q8:=hA.ed;rw[hz] at q8;refine aw (by simp[e])<|aW (by simp[e])<|aq<|bh (WO.cell (i:=5) hd rfl)<|az (n:=0) (aB hd.p1 q8)<|ay (akJ (WO.SY hd)) ?_;rintro _ w37 ⟨rfl,h2⟩;exact⟨_,_,_,rfl,aw rfl ⟨rfl,fin (WH.aI hI (WO.SZ h2))⟩⟩
 rename_i e14;split at hm
 .cases hm
 rename_i hk;have hk:a.kind=3\/a.kind=5\/a.kind=6\/a.kind=9:=by
  rcases vt (a.kind=3) with q|q
  .exact .inl q
  rcases vt (a.kind=5) with q5|q5
  .exact .inr (.inl q5)
  rcases vt (a.kind=6) with q6|q6
  .exact .inr (.inr (.inl q6))
  rcases vt (a.kind=9) with q9|q9
  .exact .inr (.inr (.inr q9))
  exact absurd ⟨q,q5,q6,q9⟩ hk
 rw[hH,gg] at hm;obtain⟨Y,pL,_,_⟩:=WO.fi hH bB hd;refine aw (by rcases hk with e|e|e|e<;>simp[e])<|aw (by simpa using e14)<|aw (by rcases hk with e|e|e|e<;>simp[e])<|aw (by rcases hk with e|e|e|e<;>simp[e])<|aq<|bh pL<|az (n:=a.dR) (aB hd.p1 hA.dR) ?_;split at hm
 .rename_i hx;cases hm;refine⟨?_,?_⟩
  .refine ay (BU hr.1 hr.2 hH bB hd) ?_;rw[hx];rintro v w3 ⟨h3,hv⟩;exact⟨_,_,hv,aG h3 λmh w4 h4=>bL h4 rfl (Rf.dw _) (Rf.fJ _) λw5 h5=>aW rfl ⟨rfl,fin (WH.aI hI h5.right)⟩⟩
  .refine aG hd λvQ w4 h4=>ay (BU hr.1 hr.2 hH bB h4.p1) ?_;rw[hx];rintro v w3 ⟨h3,hv⟩;exact⟨_,_,hv,bL h3.p1 rfl (Rf.dw _) (Rf.fJ _) λw5 h5=>aW rfl ⟨rfl,fin (WH.aI hI h5.right)⟩⟩
 .rename_i x hx;refine⟨?_,?_⟩
  .refine ay (BU hr.1 hr.2 hH bB hd) ?_;rw[hx];rintro v w3 ⟨h3,hv⟩;refine⟨_,_,hv,aG h3 λmh w4 h4=>bL h4 rfl (Rf.dw _) (Rf.fJ _) λw5 h5=>aw rfl<|bz h5.p2 hA.sz<|bz h5 (Rf.dw _)<|ay (Uk hA mu wG hH hx hm (WH.aI hI h5.p1)) ?_⟩;rintro _ w6 ⟨rfl,h6⟩;exact bI ⟨rfl,fin (h6.p1.right)⟩
  .refine aG hd λvQ w4 h4=>ay (BU hr.1 hr.2 hH bB h4.p1) ?_;rw[hx];rintro v w3 ⟨h3,hv⟩;refine⟨_,_,hv,bL h3.p1 rfl (Rf.dw _) (Rf.fJ _) λw5 h5=>aw rfl<|bz h5.p2 hA.sz<|bz h5 (Rf.dw _)<|ay (Uk hA mu wG hH hx hm (WH.aI hI h5.p1)) ?_⟩;rintro _ w6 ⟨rfl,h6⟩;exact bI ⟨rfl,fin (h6.p1.right)⟩
end
section
variable {O w:ao} {F:HP} {k:Nat} {S:WS} {P:WP} {I:WI} {aj:Int} {H:dr} {κ:eA}
theorem akO {a:nq} {A:aM} {r:WS×Int} (hA:wF a A) (mu:hB a.dR=true) (wG:hB a.ed=true) (hm:Kr S a=some r) (h:V O (WH k I S*F) w): ae 27 #[al k,an A] w λv w'=>v=aa r.2/\V O (WH k I r.1*F) w':=by
 unfold Kr at hm;split at hm
 .cases hm
 rename_i hk;have k1:1<=a.kind:=lT.1 λe=>hk (.inl e);have k2:a.kind<=25:=lT.1 λe=>hk (.inr (.inl e));have k3:a.kind≠18:=λe=>hk (.inr (.inr (.inl e)));have k4:a.kind≠24:=λe=>hk (.inr (.inr (.inr e)));apply ZU;refine aG h λEv w1 h1=> ?_;have mQ:=aB h1 (i:=0) hA.kind;have fin:∀{w':ao} {S':WS},V O (WH k I S'*(ab Ev A 35*F)) w'->V O (WH k I S'*F) w':=λhs=>hs.p1.right;have gO:V O (WH k I S*(ab Ev A 35*F)) w1:=h1.p1;refine az (n:=a.kind) mQ<|aw (by simp;omega)<|az (n:=a.kind) mQ<|aw (by simp;omega)<|az (n:=a.kind) mQ ?_;split at hm
 .rename_i e;obtain⟨P,hI,h2⟩:=WH.aK gO;obtain⟨hp,h3⟩:=gH.aK (WO.zA h2);refine aW (by simp[e])<|aq<|bh (WO.cell (i:=7) h2 rfl)<|ay (agT h3) ?_;have ef:qG 1 ⟨S.ld,S.c0,S.c2,S.cK⟩=(Bh S&&decide (1<=S.cK)):=rfl;rw[ef];rintro _ w2 ⟨q,d,rfl,h4⟩;split at hm
  .rename_i hf;obtain⟨S',lV,rfl⟩:=dd.1 hm;rw[if_pos hf,if_pos hf] at h4;rw[if_pos hf];have h5:V O (WO P k {S with ld:=false,c0:=S.c0,c2:=S.c2,cK:=0}*(own 3 1 q 1 d (cO [0])*(ab Ev A 35*F))) w2:=WO.wD false S.c0 S.c2 0 (gH.aI ⟨⟨by decide,by decide⟩,hp.2⟩ (h4.aF (B:=dU P.eV jP 1 ⟨false,S.c0,S.c2,0⟩*(bT P k S*(wA P k S*(own 3 1 q 1 d (cO [0])*(ab Ev A 35*F))))) (by show own 3 1 q 1 d (cO [0])*(dU P.eV jP 1 ⟨false,S.c0,S.c2,0⟩*_)=_;ac_rfl)));refine iE ⟨λn w' m=>(n=0/\m=1/\w'=w2)\/(n=1/\m=0/\V O (WH k I S'*(own 3 1 q 1 d (cO [0])*(ab Ev A 35*F))) w'),⟨1,.inl ⟨rfl,rfl,rfl⟩⟩,?_⟩;rintro u _ w3 m (⟨rfl,rfl,rfl⟩|⟨rfl,rfl,h6⟩)
   .have fQ:=h5.p1.left.rd;refine aW rfl<|fM fQ (by decide) (by decide) λad hd=>az (n:=0) (fQ.get hd rfl)<|ay (x6 (t:=⟨6,0,0,0,0,0⟩) lV (WH.aI hI h5)) ?_;rintro _ w4 ⟨rfl,h6⟩;exact⟨rfl,aY (by decide) (by decide) ⟨0,by decide,.inr ⟨rfl,rfl,h6⟩⟩⟩
   .exact aw rfl ⟨rfl,fin h6.p1.right⟩
  .rename_i hf;cases hm;rw[if_neg hf,if_neg hf] at h4;rw[if_neg hf];refine iE ⟨λn w' m=>n=0/\w'=w2,⟨0,rfl,rfl⟩,?_⟩;rintro u _ w3 m ⟨rfl,rfl⟩;exact aw rfl ⟨rfl,fin (WH.aI hI (WO.wD S.ld S.c0 S.c2 S.cK (gH.aI hp h4.right)))⟩
 rename_i e19;refine aw (by simpa using e19) ?_;split at hm
 .rename_i e;have Ek:1<=a.n:=by
   unfold Gu at hm;split at hm
   .cases hm
   .rename_i hq;exact lT.1 λq=>hq (.inl q)
  obtain⟨N,hN⟩:∃N:Nat,a.n=N:=⟨a.n.toNat,by omega⟩;have vl:=hA.n;rw[hN] at hm vl;refine aW (by simp[e])<|az (n:=(N:Int)) (aB h1 (i:=40) vl)<|ay (akG hm gO) ?_;rintro _ w5 ⟨rfl,h5⟩;exact bI ⟨rfl,fin h5⟩
 rename_i e20;refine aw (by simpa using e20) ⟨λb w'=>b=(decide (a.kind=22\/a.kind=23))/\w'=w1,?_,?_⟩
 .by_cases q:a.kind=22
  .exact aW (by simp[q]) ⟨by simp[q],rfl⟩
  .refine aw (by simpa using q) ?_;by_cases q2:a.kind=23
   .exact aW (by simp[q2]) ⟨by simp[q2],rfl⟩
   .exact aw (by simpa using q2) ⟨by simp[q,q2,k4],rfl⟩
 rintro u _ w6 ⟨rfl,rfl⟩;by_cases q:a.kind=22\/a.kind=23
 .have qc:(if a.kind=22 then Gr S a.n else(let r:=ia S.cD a.n;some ({S with cD:=r.1},r.2.2)))=some r:=by
   rcases q with q|q
   .rw[if_pos q] at hm ⊢;exact hm
   .rw[if_neg (by omega),if_pos q] at hm;rw[if_neg (by omega)];exact hm
  refine aW (by simpa using q)<|bz h1 hA.sz<|ay (akm hA q qc gO) ?_;rintro _ w7 ⟨rfl,h7⟩;exact bI ⟨rfl,fin h7⟩
 rw[if_neg (λe=>q (.inl e)),if_neg (λe=>q (.inr e))] at hm;refine aw (by simpa using q) ?_;split at hm
 .rename_i e;obtain⟨S',lV,rfl⟩:=dd.1 hm;refine aW (by simp[e])<|ay (akq lV gO) ?_;rintro _ w8 ⟨rfl,h8⟩;exact⟨rfl,rfl,fin h8⟩
 rename_i e25;obtain⟨H,hH,hm⟩:=bZ.1 hm;have hd:=gO.drew;have tW:=hd.drew;obtain⟨gJ,hL,_⟩:=WH.bj hd;obtain⟨akS,_,_⟩:=WH.bj tW;obtain⟨κ,En,zI⟩:=WH.ba hH tW;have ss:=BR hH;have aQ:a.aj.toNat<S.bQ.length:=by unfold ch at hH;rw[if_neg (by omega)] at hH;exact(ct.1 hH).1
 obtain⟨P,hI,h9⟩:=WH.aK tW;have bB:P.bw[a.aj.toNat]?=some κ:=by rw[mj hI];exact En
 refine aw (by simpa using e25)<|aw (by simpa using k3)<|az (n:=a.aj) (aB hd.p1 (i:=1) hA.aj)<|aw (by simpa using ss)<|az (n:=a.aj) (aB hd.p1 (i:=1) hA.aj)<|aq<|aN gJ<|aw (by simp;omega)<|aq<|aN akS<|az (n:=a.aj) (aB tW.p1 (i:=1) hA.aj)<|zI _<|aq<|gQ (WO.T7 hH bB h9)<|aw rfl<|az (n:=a.kind) (aB tW.p1 (i:=0) hA.kind) ?_;split at hm
 .rename_i e;split at hm
  .cases hm
  rename_i hn;have vl:=hA.n;rw[iA.1 hn] at vl;refine aW (by simp[e])<|az (n:=a.aj) (aB tW.p1 (i:=1) hA.aj)<|az (n:=0) (aB tW.p1 (i:=40) vl)<|ay (akc hm tW) ?_;rintro _ dP ⟨rfl,bu⟩;exact bI ⟨rfl,fin bu⟩
 rename_i e21;refine aw (by simpa using e21)<|aw (by simp;omega)<|aw (by simp;omega)<|az (n:=a.aj) (aB tW.p1 (i:=1) hA.aj)<|bz tW.p1 hA.sz<|ay (akK hA mu wG hH hm tW) ?_;rintro _ dH ⟨rfl,bY⟩;exact bI ⟨rfl,fin bY⟩
theorem akU {p:av} {c:Nat} {l:List TM} (h:V O F w) (hG:bd F 6 p l.length (l.flatMap eF)) (hl:l.length<=10000): ae 28 #[af p l.length c] w λv w'=>∃q d,v=af q l.length d/\V O (aE 50 6 eF q l.length d l*F) w':=by
 apply ZV;refine cy (λhn=> ?_) (λhn=> ?_)
 .have hp:p=none:=by cases p with|none=>rfl|some a=>simp at hn
  have h0:l=[]:=by
   apply m5;rcases wH l.length with h0|h0
   .exact h0
   .obtain⟨a,e⟩:=(hG _ _ h).2.1 h0;rw[hp] at e;cases e
  subst h0;exact⟨none,0,rfl,fE _ _ _ h⟩
 .refine aG h λk1 w1 h1=> ?_;have h2:=h1.lx (t:=50) (sz:=6) (n:=0) rfl (by decide);refine lW Hq h2 (hG _ _ h2.right) (λu hu=> ?_) (by simp only[maxLen];omega) (by omega) λp' c' w' h3=> ?_
  .exact yG D4 u hu
  .rw[dc];rw[dc] at h3;exact⟨p',c',rfl,h3⟩
theorem WO.akV {K:ao->Prop} (h:V O (WO P k S*F) w) (hk:∀w',V O (WO {P with tp:=none,tc:=0} k {S with told:=[]}*F) w'->K w'):st ((aD k).add 17) aP w K:=by
 have h1:V O (bT P k S*(jn P.run S.run*(iu P S*(iJ P S*(kD P k S*F))))) w:=h.aF (by rw[WO.run];ac_rfl);obtain⟨P2,kY⟩:∃P2:WP,P2={P with tp:=none,tc:=0}:=⟨_,rfl⟩;obtain⟨S2,gu⟩:∃S2:WS,S2={S with told:=[]}:=⟨_,rfl⟩;refine bT.set (P':=P2) (S':=S2) (i:=12) (by decide) h1 (by rw[kY]) (by rw[kY]) (by rw[kY]) (by rw[kY]) (by rw[gu]) (by rw[kY,gu];simp) λw' h2=>hk w' ?_;have h3:=fE 50 6 eF h2;have e1:WO {P with tp:=none,tc:=0} k {S with told:=[]}=WO P2 k S2:=by rw[kY,gu]
 rw[e1,WO.run];have e2:iJ P2 S2=aE 50 6 eF none 0 0 []:=by rw[kY,gu];rfl
 have e3:iu P2 S2=iu P S:=by rw[kY,gu];rfl
 have e4:jn P2.run S2.run=jn P.run S.run:=by rw[kY,gu]
 have e5:kD P2 k S2=kD P k S:=by rw[kY,gu];rfl
 rw[e2,e3,e4,e5];exact(h3.aF (B:=iJ P S*(bT P2 k S2*(jn P.run S.run*(iu P S*(aE 50 6 eF none 0 0 []*kD P k S)))*F)) (by ac_rfl)).right
theorem WO.akW (h:V O (WO P k S*F) w):V O (iJ P S*(bT P k S*(jn P.run S.run*(iu P S*(kD P k S*F))))) w:=h.aF (by rw[WO.run];ac_rfl)
theorem Uo {a:nq} {A:aM} {r:WS×List TM×Int} (hA:wF a A) (hm:Ks S a=some r) (h:V O (WH k I S*F) w): ae 19 #[al k,an A] w λv w'=>∃q d,v=ak #[af q r.2.1.length d,aa r.2.2]/\r.2.1.length<=10000/\V O (aE 50 6 eF q r.2.1.length d r.2.1*(WH k I r.1*F)) w':=by
 unfold Ks at hm;split at hm
 .cases hm
 rename_i hc;have mu:hB a.dR=true:=by
  cases q:hB a.dR with
  |true=>rfl
  |false=>exact absurd (.inl q) hc
 have wG:hB a.ed=true:=by
  cases q:hB a.ed with
  |true=>rfl
  |false=>exact absurd (.inr (.inl q)) hc
 obtain⟨r1,fA,hm⟩:=bZ.1 hm;split at hm
 .cases hm
 rename_i hl;cases hm;obtain⟨P,hI,h⟩:=WH.aK h;have tU:({P with tp:=none,tc:=0}:WP).im=I:=hI;apply ZR;refine aG h λk1 w1 h1=>aw rfl<|aq<|WO.akV h1.p1 λw2 h2=>bz h2.p1 hA.sz<|ay (akO hA mu wG fA (WH.aI tU h2)) ?_;rintro _ w3 ⟨rfl,h3⟩;obtain⟨P3,Er,h4⟩:=WH.aK h3;have h5:=WO.akW h4;refine bI<|aq<|aN (WO.cell (i:=12) h4 rfl)<|ay (akU (l:=r1.1.told) h5 (bd.left bd.own) (by omega)) ?_;rintro _ w4 ⟨q,d,rfl,h6⟩;refine iE ⟨q,d,rfl,by show r1.1.told.length<=10000;omega,?_⟩;have h7:V O (WO P3 k r1.1*(aE 50 6 eF q r1.1.told.length d r1.1.told*(ab k1 A 35*F))) w4:=h6.aF (by rw[WO.run];ac_rfl);exact(WH.aI Er (h7.p2.p1)).p1.right.p1
end
def tX (I:WI) (aj:Int):av:=(I.bw[aj.toNat]?).map λκ=>(aD κ.kh)
def vm (S:WS) (aj:Int):List aM:=match ch S aj with
 |some H=>(cq 0 H.fi.sp).map λp=>#[ah (hd p.1 p.2.g),an (fv p.2.x.lk)]
 |none=>[]
def nD (S:WS) (aj:Int):aJ:=match ch S aj with
 |some H=>fH 0 H.fi.sp
 |none=>[]
section
variable {O w:ao} {F:HP} {k:Nat} {S:WS} {P:WP} {I:WI} {aj:Int} {H:dr} {κ:eA}
theorem WH.BZ (h0:0<=aj) (hH:ch S aj=none) (h:V O (WH k I S*F) w):I.bw[aj.toNat]?=none:=by obtain⟨_,hl,_⟩:=WH.bj h;unfold ch at hH;rw[if_neg (by omega)] at hH;rw[H6] at hH ⊢;omega
theorem HM (h0:0<=aj) (h:V O (WH k I S*F) w):ae 127 #[al k,aa aj] w λv w'=>v=ag (tX I aj)/\w'=w:=by
 obtain⟨gJ,hl,_⟩:=WH.bj h;apply aal;refine aw rfl<|aw (by simpa using h0)<|aq<|aN gJ<|bU (λbW=> ?_) (λaQ=> ?_)
 .refine⟨?_,rfl⟩;unfold tX;rw[ua (by omega)];rfl
 .have hs:∃H,ch S aj=some H:=by refine⟨S.bQ[aj.toNat]'(by omega),?_⟩;unfold ch;rw[if_neg (by omega)];exact gm (by omega)
  obtain⟨H,hH⟩:=hs;obtain⟨κ,bB,zI⟩:=WH.ba hH h;refine aq<|aN gJ<|zI _ ⟨?_,rfl⟩;unfold tX;rw[bB];rfl
theorem akX (h0:0<=aj) (h:V O (WH k I S*F) w):ae 69 #[al k,aa aj] w λv w'=>v=ag ((I.bw[aj.toNat]?).map λκ=>(aD κ.ks))/\w'=w:=by
 apply Z5;refine ay (HM h0 h) ?_;rintro _ w1 ⟨rfl,rfl⟩;unfold tX;cases bB:I.bw[aj.toNat]? with
 |none=>exact gK<|aw rfl ⟨rfl,rfl⟩
 |some κ=>
  obtain⟨H,hH⟩:∃H,ch S aj=some H:=by
   cases hq:ch S aj with
   |some H=>exact⟨H,rfl⟩
   |none=>rw[WH.BZ h0 hq h] at bB;cases bB
  obtain⟨P,hI,h1⟩:=WH.aK h;obtain⟨Y,m4,_,_⟩:=WO.ca hH (by rw[mj hI];exact bB) h1;exact gK<|aW rfl<|aq<|bh m4 ⟨rfl,rfl⟩
theorem akY (h0:0<=aj) (h:V O (WH k I S*F) w):ae 130 #[al k,aa aj] w λv w'=>v=ag ((I.bw[aj.toNat]?).map λκ=>(aD κ.kp))/\w'=w:=by
 apply aam;refine ay (HM h0 h) ?_;rintro _ w1 ⟨rfl,rfl⟩;unfold tX;cases bB:I.bw[aj.toNat]? with
 |none=>exact gK<|aw rfl ⟨rfl,rfl⟩
 |some κ=>
  obtain⟨H,hH⟩:∃H,ch S aj=some H:=by
   cases hq:ch S aj with
   |some H=>exact⟨H,rfl⟩
   |none=>rw[WH.BZ h0 hq h] at bB;cases bB
  obtain⟨P,hI,h1⟩:=WH.aK h;obtain⟨Y,m4,_,_⟩:=WO.dA hH (by rw[mj hI];exact bB) h1;exact gK<|aW rfl<|aq<|bh m4 ⟨rfl,rfl⟩
theorem Up {x0:av} (h:V O F w):ae 63 #[ag x0,aa aj] w λv w'=>∃ka kb ta tb,v=.func (.func 126) #[] #[al ka,al kb]/\V O (ab kb #[aa aj] tb*(ab ka #[ag x0] ta*F)) w':=by apply Z4;exact aG h λk1 w1 h1=>aG h1 λk2 w2 h2=>⟨k1,k2,_,_,rfl,h2⟩
theorem Uq {ka kb:Nat} {ta tb:TypeId} {X:HP} {bG:Nat->HP} (h0:0<=aj) (hP:∀w,V O (bG 0) w->V O (ab kb #[aa aj] tb*(ab ka #[al k] ta*(WH k I S*X))) w): iD au O 126 #[al ka,al kb] bG (vm S aj):=by
 intro f b c B Bx cA hB hy F w h;show ae _ #[.func f b c,al ka,al kb] w _;apply aak;refine aG h λk1 w1 h1=> ?_;obtain⟨t1,h1⟩:∃t1,V O (ab k1 #[.func f b c] t1*(B 0*F)) w1:=⟨_,h1⟩;have hp:=hP _ (hB 0 _ h1.right.left);refine bh (fS hp.p1 rfl)<|az (n:=aj) (fS hp rfl)<|ay (HM h0 hp.p2) ?_;rintro _ w2 ⟨rfl,rfl⟩;unfold vm at hy ⊢;cases hH:ch S aj with
 |none=>have hn:=WH.BZ h0 hH hp.p2;refine gK<|aW (by unfold tX;rw[hn];rfl) ?_;exact .inl h1.right
 |some H=>
  rw[hH] at hy;dsimp only at hy ⊢;obtain⟨κ,bB,_⟩:=WH.ba hH hp.p2;have hv:tX I aj=some (aD κ.kh):=by unfold tX;rw[bB];rfl
  rw[hv];obtain⟨P,hI,hq⟩:=WH.aK hp.p2;obtain⟨Y,pL,hr,_⟩:=WO.fi hH (by rw[mj hI];exact bB) hq;obtain⟨ho,_⟩:=ji.aK hr;refine gK<|aw rfl<|aq<|bh pL<|ay (Rf.xy h1) ?_;rintro _ w4 ⟨k2,t2,rfl,h4⟩;refine i6<|j7 ⟨O,_,_,(cq 0 H.fi.sp).map λp=>Rf.jf (Rf.kc p),λj=>ab k2 #[al κ.kr] t2*(ab k1 #[.func f b c] t1*(B j*F)),λc=>bM (c=.ret)*(Bx*F),rfl,⟨_,_,Tryz.func186,rfl⟩,h4,?_,Rf.KO ho (λw h=>h.left) (λw h=> ?_),?_,?_,?_⟩
  .intro x hx;obtain⟨q,_,rfl⟩:=fC.1 hx;rfl
  .have ql:=hP _ (hB 0 _ h.right.right.left);obtain⟨P2,zJ,vg⟩:=WH.aK ql.p2;obtain⟨Y2,_,fp,_⟩:=WO.fi hH (by rw[mj zJ];exact bB) vg;exact(ji.aK fp).2.left
  .intro j x hx G G' T w5 hT h5;obtain⟨q,hq,rfl⟩:=tw hx;refine⟨_,_,rfl,aG h5 λmh w6 h6=>bL h6 rfl (Rf.dw _) (Rf.fJ _) λw7 h7=>hT (ab mh (Rf.bP q.2.x).toArray 141*(ab k2 #[al κ.kr] t2*(ab k1 #[.func f b c] t1*(B j*F)))) _ _ (h7.aF (by dsimp only;ac_rfl)) λw8 h8=> ?_⟩;have h9:V O (ab k1 #[.func f b c] t1*(ab mh (Rf.bP q.2.x).toArray 141*(ab k2 #[al κ.kr] t2*(B j*(F*G'))))) w8:=h8.aF (by first|ac_rfl|(dsimp only;ac_rfl));refine Fm (h9.left.cell (i:=0) rfl)<|ff h9.p1 (by simp[Rf.dJ]) ?_;rw[Uj];refine nH (hy j _ (by rw[eZ,hq];rfl) (ab k1 #[.func f b c] t1*(ab mh (Rf.bP q.2.x).toArray 141*(ab k2 #[al κ.kr] t2*(F*G')))) _ (h9.p3)) ?_;rintro v w9 (⟨rfl,bu⟩|⟨rfl,bu⟩)
   .exact cR<|aw rfl<|(bu.aF (B:=ab mh (Rf.bP q.2.x).toArray 141*((ab k2 #[al κ.kr] t2*(ab k1 #[.func f b c] t1*(B (j+1)*F)))*G')) (by ac_rfl)).right
   .exact cR<|aW rfl<|(((bu.aF (B:=(ab mh (Rf.bP q.2.x).toArray 141*(ab k2 #[al κ.kr] t2*ab k1 #[.func f b c] t1))*((Bx*F)*G')) (by ac_rfl)).right.eL (p:=Code.ret=Code.ret) rfl).aF (by dsimp only;ac_rfl))
  .intro D w5 h5;rw[fk] at h5 ⊢;exact iL h5 λw' h6=>.inl h6.right.right
  .intro D c w5 h5;have h5:=h5.aF (B:=bM (c=.ret)*(fw D*(Bx*F))) (by dsimp only;ac_rfl);obtain rfl:=h5.bM;exact yB<|iL h5.right λw' h6=>.inr h6
theorem Ur:vm S aj=((match ch S aj with|some H=>cq 0 H.fi.sp|none=>[]).map λ(p:Nat×bK kX)=>#[ah (hd p.1 p.2.g),an (fv p.2.x.lk)])/\nD S aj=(match ch S aj with|some H=>cq 0 H.fi.sp|none=>[]).map λ(p:Nat×bK kX)=>hd p.1 p.2.g:=by
 unfold vm nD;cases ch S aj with
 |none=>exact⟨rfl,rfl⟩
 |some H=>exact⟨rfl,qw _ _⟩
def UA (k1:Nat) (l:aJ) (X:HP):HP:=ex λ(p:av)=>ex λ(c:Nat)=>ab k1 #[af p l.length c] 25*(aE 26 1 bS p l.length c l*X)
theorem UA.aK {k1:Nat} {l:aJ} {X:HP} (h:V O (UA k1 l X*F) w):∃p c,V O (ab k1 #[af p l.length c] 25*(aE 26 1 bS p l.length c l*(X*F))) w:=by obtain⟨p,h⟩:=h.ex;obtain⟨c,h⟩:=h.ex;exact⟨p,c,h.a.p1.a.p2⟩
theorem UA.aI {k1 n:Nat} {l:aJ} {X:HP} {p:av} {c:Nat} (hn:n=l.length) (h:V O (ab k1 #[af p n c] 25*(aE 26 1 bS p n c l*(X*F))) w):V O (UA k1 l X*F) w:=by subst hn;exact V.bO p (V.bO c (h.g2))
theorem UA.push {k1:Nat} {l:aJ} {x:Int} {X:HP} {K:ao->Prop} (hl:l.length<=100000) (h:V O (UA k1 l X*F) w) (hk:∀w',V O (UA k1 (l++[x]) X*F) w'->K w'): aL (aD k1) w λp c d=>new #[ah x] 26 w λk2 w1=>bR au (Builtin.append_ #[25,25] 25 #[af p c d,af (aU k2) 1 1]) w1 λp c d w2=>st (aD k1) (af p c d) w2 λw3=>K w3:=by obtain⟨p,c,h1⟩:=UA.aK h;refine aN (fS h1 rfl)<|aG h1 λk2 w1 h2=>ju Ue gL (by decide) uu (x:=x) h2.p2.p1 rfl (by simp only[maxLen];omega) (by omega) λp' c' w2 h3=> ?_;refine bD (i:=0) h3.p1 (by simp) λw3 h4=>hk w3 (UA.aI (n:=l.length+1) (by simp) h4)
theorem akZ:(vm S aj).length=(nD S aj).length:=by obtain⟨e1,e2⟩:=Ur (S:=S) (aj:=aj);rw[e1,e2,fk,fk]
theorem Us {j:Nat} {x:aM} (hx:(vm S aj)[j]?=some x):∃h lk,x=#[ah h,an (fv lk)]/\(nD S aj)[j]?=some h:=by obtain⟨e1,e2⟩:=Ur (S:=S) (aj:=aj);rw[e1] at hx;obtain⟨q,hq,rfl⟩:=tw hx;exact⟨_,_,rfl,by rw[e2,eZ,hq];rfl⟩
theorem Ut (h:V O (WH k I S*F) w):(nD S aj).length<=65536:=by
 unfold nD;cases hH:ch S aj with
 |none=>simp
 |some H=>obtain⟨P,hI,h⟩:=WH.aK h;obtain⟨κ,bB,_⟩:=WO.pR hH h;obtain⟨Y,_,hr,_⟩:=WO.fi hH bB h;obtain⟨ho,_⟩:=ji.aK hr;dsimp only;rw[qw,fk,JJ];have:=List.countP_le_length (p:=λy:bK kX=>y.st==1) (l:=H.fi.sp);have:=ho.len;have:=ho.ie;omega
theorem ak0 (h0:0<=aj) (h:V O (WH k I S*F) w):ae 31 #[al k,aa aj] w λv w'=>∃p c,v=af p (nD S aj).length c/\V O (aE 26 1 bS p (nD S aj).length c (nD S aj)*(WH k I S*F)) w':=by
 have eB:=Ut (aj:=aj) h;apply aa1;refine aG h λk1 w1 h1=>ay (Up h1) ?_;rintro _ w2 ⟨ka,kb,ta,tb,rfl,h2⟩;have h3:V O (UA k1 ((nD S aj).take 0) (ab kb #[aa aj] tb*(ab ka #[al k] ta*(WH k I S*F)))*cW) w2:=UA.aI (p:=none) (n:=0) (c:=0) rfl ((fE 26 1 bS h2.cQ).aF (by show aE 26 1 bS none 0 0 []*(cW*(_*(_*(ab k1 #[aP] 25*_))))=_;ac_rfl));refine i6<|j7 ⟨O,_,_,vm S aj,λj=>UA k1 ((nD S aj).take j) (ab kb #[aa aj] tb*(ab ka #[al k] ta*(WH k I S*F))),λ_=>bM False,rfl,⟨_,_,Tryz.func126,rfl⟩,(h3.e1).Ah,?_,Uq (X:=F) (ta:=ta) (tb:=tb) (k:=k) (I:=I) h0 (λw h=> ?_),?_,?_,?_⟩
 .intro x hx;obtain⟨i,hi⟩:=List.getElem?_of_mem hx;obtain⟨_,_,rfl,_⟩:=Us hi;rfl
 .obtain⟨p,c,h⟩:=UA.aK (h.cQ.e1);exact(h.right.right.e1).Ah
 .intro j x hx G G' T w3 hT h4;obtain⟨hn,lk,rfl,hj⟩:=Us hx;have iM:=(ct.1 hj).1;refine⟨_,_,rfl,hT _ _ _ h4 λw4 h5=> ?_⟩;refine UA.push (x:=hn) (by rw[fB];omega) h5 λw7 h6=> ?_;have e:(nD S aj).take (j+1)=(nD S aj).take j++[hn]:=by rw[fV,hj];rfl
  dsimp only;rw[e];exact h6
 .intro D w8 h5;rw[akZ] at h5;dsimp only at h5;rw[j4] at h5;obtain⟨p,c,h6⟩:=UA.aK (h5.e1);refine aN (fS h6 rfl)<|iL (h6.p2.a.p1.a.p1.a.p2.p3.p4.p5.e6) λw9 h7=>⟨p,c,rfl,?_⟩;exact(h7.p3.p3.p3.g2).right
 .intro D c w8 h5;exact(V.nJ h5).elim
end
end Go.Proofs.YtjhnnnfnkjighaaGreatDoor
