/- Whole: a part of the proof. No conditions. -/
import Derived.Test.YtjhnnnfnkjighaaGreatDoorQ19
set_option linter.unusedVariables false
set_option linter.unusedSimpArgs false
set_option maxRecDepth 100000
namespace Go.Proofs.YtjhnnnfnkjighaaGreatDoor.Hp
open Go.Proofs.YtjhnnnfnkjighaaGreatDoor
open Go.Sp Go.RowKit
abbrev u7:=Nat×OM×Loc
def rS (q:u7):dB:=[al q.1]
theorem LO (q:u7):(rS q).length=1:=rfl
theorem ahR (q:u7):∀u∈rS q,u.oneCell'=true:=by simp[rS,Value.oneCell']
theorem ahS:fe au 484 113 (ag none) 1 8:=⟨by kernel_rfl,by kernel_rfl,rfl,by decide⟩
def oq:List u7->HP
 |[]=>cW
 |q::qs=>iq q.1 q.2.1 q.2.2*oq qs
theorem Sh {qs:List u7} {i:Nat} {q:u7} (h:qs[i]?=some q):oq qs=iq q.1 q.2.1 q.2.2*oq (qs.eraseIdx i):=by
 induction qs generalizing i with
 |nil=>simp at h
 |cons z qs ih=>
  cases i with
  |zero=>simp at h;subst h;rfl
  |succ i=>rw[B4,oq,oq,ih (by simpa using h)];ac_rfl
theorem ahT {qs:List u7} {q:u7}:oq (qs++[q])=iq q.1 q.2.1 q.2.2*oq qs:=by
 induction qs with
 |nil=>rfl
 |cons y qs ih=>rw[pX,oq,oq,ih];ac_rfl
def nC (q:u7):List (Int×Int):=q.2.1.ln
theorem LP {top:Int}:∀{qs:List u7},(∀q∈qs,sF top q.2.1)->(qs.flatMap nC).length<=8*qs.length
 |[],_=>by simp
 |q::qs,h=>by have h1:=LP (qs:=qs) λq hq=>h q (.tail _ hq);have h2:=(h q (.head _)).len;rw[jE,gp,iB];unfold nC at*;omega
section
variable {O w:ao} {F:HP} {b a f:Nat} {top:Int} {P:PM} {S:HS} {wt gn fo:aJ}
theorem FL.Si {x:Int} {R:ao->Prop} (h:V O (FL f b wt gn fo*F) w) (hl:gn.length<=100000) (hk:∀w',V O (FL f b wt (gn++[x]) fo*F) w'->R w'): nn (aU f) λLG=>aL (LG.add 2) w λLq Lr Ls=>new #[ah x] 26 w λlL w4=>bR au (Builtin.append_ #[25,25] 25 #[af Lq Lr Ls,af (aU lL) 1 1]) w4 λlO l25 lP w5=> nn (aU f) λa26=>st (a26.add 2) (af lO l25 lP) w5 λw6=>R w6:=by obtain⟨pw,cw,pg,cg,pf,cf,h7⟩:=FL.aK h;refine aq<|aN (aB h7 (i:=2) rfl)<|aG h7 λk30 w5 h8=> ?_;refine ju uI gL (by decide) uu (x:=x) (h8.p3.p1) rfl (by simp only[maxLen];omega) (by omega) λp' c' w6 h9=> ?_;refine aq<|bD (i:=2) (h9.p2.p2) (by simp) λw7 aV=>hk w7 ?_;exact FL.aI (gn:=gn++[x]) (aV:V O (ab f #[al b,af pw wt.length cw,af p' (gn.length+1) c',af pf fo.length cf] 363*_) w7) rfl (by simp) rfl
def LQ (O:ao) (F:HP) (b a:Nat) (top:Int) (S:HS) (wt gn fo:aJ) (mk:av->Nat->Nat->av->Nat->bo) (v:Value) (w':ao):Prop:=
 ∃r P' pg cg pf cf,tF S wt gn fo r/\dv top r.1/\r.1.aR=S.aR/\r.1.bn<=S.bn/\r.2.1.length<=2000/\r.2.2.length<=20000/\v=mk pg r.2.1.length cg pf r.2.2.length cf/\
  V O (aE 26 1 bS pg r.2.1.length cg r.2.1*(aE 26 1 bS pf r.2.2.length cf r.2.2*(HH b a top P' r.1*F))) w'
def mk2 (p:av) (l c:Nat) (q:av) (m d:Nat):Value:=ak #[af p l c,af q m d]
def zv (e:Int) (p:av) (l c:Nat) (q:av) (m d:Nat):Value:=ak #[af p l c,af q m d,aa e]
theorem LR (hh:V O (FL f b wt gn fo*(HH b a top P S*F)) w) (hs:dv top S) (hw:nm S wt) (AL:gn.length+S.bn<=2000) (ID:wt.length+fo.length+9*S.bn<=20000): ae 147 #[al f] w (LQ O F b a top S wt gn fo mk2):=by
 apply Yh;refine⟨λw m=>∃S1 P1 BG ot kz,m=S1.bn/\dv top S1/\nm S1 BG/\S1.aR=S.aR/\S1.bn<=S.bn/\ot.length+S1.bn<=2000/\BG.length+kz.length+9*S1.bn<=20000/\V O (FL f b BG ot kz*(HH b a top P1 S1*F)) w/\∀r,tF S1 BG ot kz r->tF S wt gn fo r,⟨_,S,P,wt,gn,fo,rfl,hs,hw,rfl,eJ _,AL,ID,hh,λr h=>h⟩,?_⟩;rintro u w1 m ⟨S1,P1,BG,ot,kz,rfl,mC,me,AZ,jH,wq,oQ,h1,Sj⟩;obtain⟨pw,cw,pg,cg,pf,cf,h2⟩:=FL.aK h1;refine aq<|aN (aB h2 (i:=1) rfl) ?_;cases BG with
 |nil=>refine aw (by simp) ?_;have h3:=h2.drew;refine aq<|aN (aB h3 (i:=2) rfl)<|aq<|aN (aB h3 (i:=3) rfl) ⟨(S1,ot,kz),P1,pg,cg,pf,cf,Sj _ .done,mC,AZ,jH,by dsimp only;omega,by dsimp only;omega,rfl,?_⟩;exact h3.right.right
 |cons h kA=>
  rw[iB] at oQ h2 ⊢;refine aW (by simp) ?_;have hq:V O (jx 26 pw (kA.length+1) cw (ah h::oo kA)*_) w1:=h2.aF (B:=jx 26 pw (kA.length+1) cw (ah h::oo kA)*(ab f #[al b,af pw (kA.length+1) cw,af pg ot.length cg,af pf kz.length cf] 363*(aE 26 1 bS pg ot.length cg ot*(aE 26 1 bS pf kz.length cf kz*(HH b a top P1 S1*F))))) (by show ab f _ _*(jx 26 pw _ cw (ah h::oo kA)*_)=_;ac_rfl);have mr:=Qa hq;have fQ:=JR hq;refine aq<|aN (aB h2 (i:=1) rfl)<|fM fQ (by omega) (by omega) λa9 ha9=>az (n:=h) (fQ.get ha9 (j:=0) rfl)<|aq<|aN (aB h2 (i:=1) rfl)<|oI (by omega) (by omega) (by omega) ?_;have e1:(1:Int).toNat=1:=rfl;have e2:(((kA.length+1:Nat):Int)).toNat- (1:Int).toNat=kA.length:=by omega
  rw[e2,e1,Nat.one_mul];have h3:=Qb hq;refine aq<|bD (i:=1) (h3.p1) (by simp) λw2 h4=> ?_;have h5:V O (FL f b kA ot kz*(HH b a top P1 S1*F)) w2:=FL.aI (wt:=kA) (h4:V O (ab f #[al b,af (if cw=1 then pw else pw.map (·.add 1)) kA.length (cw- 1),af pg ot.length cg,af pf kz.length cf] 363*_) w2) rfl rfl rfl;clear h4 h3 hq h2 h1 fQ;obtain⟨o,hp,Hg,hoc⟩:=me.all h (.head _);obtain⟨fm,Sk⟩:=mC.Gc hp Hg;have tG:=mC.fN h o hp;have uW:=mC.F9 hp;have Sl:=h5.p1;refine aq<|bh (FL.c0 h5)<|aq<|bh (HH.c1 Sl)<|ay (Sg Sl mC.ok hp) ?_;rintro _ w3 ⟨k,L,rfl,_,h6⟩;refine⟨_,_,rfl,FL.Si (x:=h) (h6.p2) (by omega) λw6 h7=>aG h7 λk27 w7 h8=> ?_⟩;have h9:V O (aE 113 1 rS (aU k27) 1 1 [(k,o,L)]*(FL f b kA (ot++[h]) kz*(iq k o L*(HH b a top (sN P1 h none) (gz z0 S1 h)*F)))) w7:=h8.lx (t:=113) (sz:=1) (n:=1) rfl (by decide);have amN:∀{w:ao} {A B:HP},V O (A*(B*(iq k o L*(oq []*F)))) w->True:=λ_=>trivial;have cin:∀{w:ao} {A B X:HP},V O (A*(B*(iq k o L*X))) w->w.cell? ((aD k).add 4)=some (af L.pi o.cj.length L.ci):=λh=>u6 h.right.right (i:=4) rfl;refine aq<|aN (cin h9) ?_;have S1h:mb S1 [h]=gz z0 S1 h:=rfl;refine⟨λp l c n w m=>0<=n/\n<=o.cj.length/\m=o.cj.length- n.toNat/\∃rest P2,l=((k,o,L)::rest).length/\rest.length=n.toNat/\rest.flatMap nC=(o.cj.take n.toNat).flatMap (mc S1)/\(∀q∈rest,sF top q.2.1)/\V O (aE 113 1 rS p l c ((k,o,L)::rest)*(FL f b kA (ot++h::o.cj.take n.toNat) kz*(iq k o L*(oq rest*(HH b a top P2 (mb S1 (h::o.cj.take n.toNat))*F))))) w,⟨_,by omega,by omega,rfl,[],_,rfl,rfl,rfl,(λq hq=>by cases hq),h9.cQ.aF (by show cW*(aE 113 1 rS _ 1 1 [(k,o,L)]*(FL f b kA (ot++[h]) kz*(iq k o L*(HH b a top (sN P1 h none) (gz z0 S1 h)*F))))=aE 113 1 rS _ 1 1 [(k,o,L)]*(FL f b kA (ot++[h]) kz*(iq k o L*(cW*(HH b a top (sN P1 h none) (gz z0 S1 h)*F))));ac_rfl)⟩,?_⟩;rintro u p l c n w8 m ⟨n0,nl,rfl,rest,P2,rfl,tu,te,Sm,aV⟩;refine bU (λaQ=> ?_) (λbW=> ?_)
  .have hi:n.toNat<o.cj.length:=by omega
   obtain⟨i,xV⟩:∃i,o.cj[n.toNat]?=some i:=⟨_,gm hi⟩;have ahZ:i∈o.cj:=dF xV;have Sn:V O (aE 26 1 bS L.pi o.cj.length L.ci o.cj) w8:=by have:=aV.right.right.left;exact(show V O (ab k (oA o L) 350*(aE 139 2 jO L.pl o.ln.length L.cl o.ln*aE 26 1 bS L.pi o.cj.length L.ci o.cj)) w8 from this).right.right
   obtain⟨x,hx,hxo⟩:=mC.cj h o hp i ahZ;have e3:o.cj=o.cj.take n.toNat++i::o.cj.drop (n.toNat+1):=by
    conv=>lhs;rw[<-mK n.toNat o.cj,ll hi]
    rw[gm hi] at xV;rw[Option.some.inj xV]
   have So:=fm;rw[e3,<-pX] at So;have Sq:=sb.1 So;have yP:i∉h::o.cj.take n.toNat:=λhm=>Sq.2.2 i hm i (.head _) rfl;obtain⟨g1,g2,g3,g4⟩:=Gb (h::o.cj.take n.toNat) mC.topB Sq.1 λy hy=>Sk y (by
    rcases pa.1 hy with rfl|hy
    .exact .head _
    .exact .tail _ (pU hy))
   have oL:bg (mb S1 (h::o.cj.take n.toNat)) i=some x:=by rw[g4,if_neg yP];exact hx
   have htl:(o.cj.take n.toNat).length=n.toNat:=by rw[fB];omega
   have Sr:=aV.p4;refine dC gL Sn (by decide) n0 xV λg hg=>az (n:=i) (by have:=cU gL Sn hg xV (j:=0) (by decide) rfl;rwa[Sp.add_zero] at this)<|aq<|bh (FL.c0 aV.right)<|aq<|bh (HH.c1 Sr)<|ay (Sg Sr g1.ok oL) ?_;rintro _ w9 ⟨k2,L2,rfl,_,bu⟩;refine⟨_,_,rfl,FL.Si (x:=i) (bu.p3) (by rw[gp,iB,htl];omega) λfF bA=>aG bA λRp fZ bN=> ?_⟩;refine ju ahS LO (by decide) ahR (x:=(k2,x,L2)) (bN.p4.p1) rfl (by rw[iB];simp only[maxLen];omega) (by rw[iB];omega) λp' c' dH bY=> ?_;have mz:o.cj.take (n+1).toNat=o.cj.take n.toNat++[i]:=by rw[show(n+1).toNat=n.toNat+1 by omega,fV,xV];rfl
   refine aY (by omega) (by omega) ⟨_,?_,by omega,by omega,rfl,rest++[(k2,x,L2)],sN P2 i none,by simp,by simp;omega,?_,?_,?_⟩
   .omega
   .rw[mz,sW,sW,te];congr 1;simp[nC,mc,hx]
   .intro q hq;rcases fj.1 hq with hq|hq
    .exact Sm q hq
    .rw[mL] at hq;subst hq;exact mC.fN i x hx
   .have erm:mb S1 (h::(o.cj.take n.toNat++[i]))=gz z0 (mb S1 (h::o.cj.take n.toNat)) i:=ad0 S1 (h::o.cj.take n.toNat) i;rw[mz,ahT,erm];refine bY.aF ?_;have eg:ot++h::o.cj.take n.toNat++[i]=ot++(h::o.cj.take n.toNat++[i]):=by rw[iy]
    rw[eg];show aE 113 1 rS p' (((k,o,L)::rest).length+1) c' ((k,o,L)::rest++[(k2,x,L2)])*_=_;ac_rfl
  .rw[eW (by omega)] at aV te;obtain⟨bj,qI⟩:∃bj,bj=(k,o,L)::rest:=⟨_,rfl⟩;obtain⟨S2,gu⟩:∃S2,S2=mb S1 (h::o.cj):=⟨_,rfl⟩;obtain⟨xW,LS⟩:∃xW,xW=ot++h::o.cj:=⟨_,rfl⟩;have wO:dv top S2:=gu▸mC.gone hp Hg;have rD:nm S2 kA:=gu▸(nm.gone mC me hp).2;obtain⟨_,Ss,Su,_⟩:=Gb (h::o.cj) mC.topB fm Sk;rw[<-gu] at Ss Su;rw[iB] at Ss;have amQ:bj.length=o.cj.length+1:=by rw[qI,iB,tu];omega
   have LU:∀q∈bj,sF top q.2.1:=λq hq=>by
    rw[qI] at hq;rcases pa.1 hq with rfl|hq
    .exact tG
    .exact Sm q hq
   have ah2:bj.flatMap nC=o.ln++o.cj.flatMap (mc S1):=by rw[qI,jE,te];rfl
   have amR:=LP LU;have bu:V O (aE 113 1 rS p bj.length c bj*(oq bj*(FL f b kA xW kz*(HH b a top P2 S2*F)))) w8:=aV.aF (by rw[qI,gu,LS,oq];ac_rfl);clear aV;rw[show((k,o,L)::rest).length=bj.length by rw[qI]];refine⟨λn w m=>0<=n/\n<=bj.length/\m=bj.length- n.toNat/\V O (aE 113 1 rS p bj.length c bj*(oq bj*(FL f b (gT (S2,kA,kz) ((bj.take n.toNat).flatMap nC)).2.1 xW (gT (S2,kA,kz) ((bj.take n.toNat).flatMap nC)).2.2*(HH b a top P2 (gT (S2,kA,kz) ((bj.take n.toNat).flatMap nC)).1*F)))) w,⟨_,by omega,by omega,rfl,bu⟩,?_⟩;rintro u n kQ m ⟨n0,nl,rfl,bA⟩;refine bU (λaQ=> ?_) (λbW=> ?_)
   .have hi:n.toNat<bj.length:=by omega
    obtain⟨q,hq⟩:∃q,bj[n.toNat]?=some q:=⟨_,gm hi⟩;have LV:=LU q (dF hq);obtain⟨T,hT⟩:∃T,T=gT (S2,kA,kz) ((bj.take n.toNat).flatMap nC):=⟨_,rfl⟩;rw[<-hT] at bA;have bN:V O (iq q.1 q.2.1 q.2.2*(aE 113 1 rS p bj.length c bj*(oq (bj.eraseIdx n.toNat)*(FL f b T.2.1 xW T.2.2*(HH b a top P2 T.1*F))))) kQ:=bA.aF (by rw[Sh hq];ac_rfl);refine dC LO bA.left (by decide) n0 hq λg hg=>bh (n:=some (aD q.1)) (by have:=cU LO bA.left hg hq (j:=0) (by decide) rfl;rwa[Sp.add_zero] at this)<|aq<|aN (u6 bN (i:=3) rfl) ?_;have mz:(bj.take (n.toNat+1)).flatMap nC=(bj.take n.toNat).flatMap nC++q.2.1.ln:=by rw[fV,hq,sW];simp[nC]
    refine⟨λj w m=>0<=j/\j<=q.2.1.ln.length/\m=q.2.1.ln.length- j.toNat/\V O (iq q.1 q.2.1 q.2.2*(aE 113 1 rS p bj.length c bj*(oq (bj.eraseIdx n.toNat)*(FL f b (gT T (q.2.1.ln.take j.toNat)).2.1 xW (gT T (q.2.1.ln.take j.toNat)).2.2*(HH b a top P2 (gT T (q.2.1.ln.take j.toNat)).1*F))))) w,⟨_,by omega,by omega,rfl,bN⟩,?_⟩;rintro u j nM m ⟨j0,jl,rfl,bY⟩;refine bU (λamS=> ?_) (λamT=> ?_)
    .have hj:j.toNat<q.2.1.ln.length:=by omega
     obtain⟨x,hx⟩:∃x,q.2.1.ln[j.toNat]?=some x:=⟨_,gm hj⟩;have oJ:V O (aE 139 2 jO q.2.2.pl q.2.1.ln.length q.2.2.cl q.2.1.ln) nM:=(show V O (ab q.1 (oA q.2.1 q.2.2) 350*(aE 139 2 jO q.2.2.pl q.2.1.ln.length q.2.2.cl q.2.1.ln*aE 26 1 bS q.2.2.pi q.2.1.cj.length q.2.2.ci q.2.1.cj)) nM from bY.left).right.left;have ah3:gT T (q.2.1.ln.take j.toNat)=gT (S2,kA,kz) ((bj.take n.toNat).flatMap nC++q.2.1.ln.take j.toNat):=by rw[hT,<-Qg]
     have hU:=Qk (fo:=kz) ((bj.take n.toNat).flatMap nC++q.2.1.ln.take j.toNat) wO rD;rw[<-ah3] at hU;have JZ:((bj.take n.toNat).flatMap nC).length<=8*bj.length:=by have:=LP (qs:=bj.take n.toNat) λq hq=>LU q (pU hq);rw[fB] at this;omega
     have amU:(q.2.1.ln.take j.toNat).length<=8:=by rw[fB];have:=LV.len;omega
     obtain⟨U,DT⟩:∃U,U=gT T (q.2.1.ln.take j.toNat):=⟨_,rfl⟩;rw[<-DT] at hU bY;have hUl:=hU.2.2.2.2;rw[gp] at hUl;refine dC wm oJ (by decide) j0 hx λg hg=>vK wm oJ hg hx<|aG bY λLu nN cE=>bL cE rfl rfl (DS x) λnL df=> ?_;have df:V O (ab Lu (iI x) 139*(iq q.1 q.2.1 q.2.2*(aE 113 1 rS p bj.length c bj*(oq (bj.eraseIdx n.toNat)*(FL f b U.2.1 xW U.2.2*(HH b a top P2 U.1*F)))))) nL:=df;refine bz df rfl<|ay (LM (x:=x) (df.p3.p3.p3.p5.p5) hU.1 (LV.ln x (dF hx)) (by omega) (by omega)) ?_;rintro _ rp ⟨rfl,dZ⟩;have LW:gT T (q.2.1.ln.take (j+1).toNat)=fR U.1 U.2.1 U.2.2 x:=by rw[show(j+1).toNat=j.toNat+1 by omega,fV,hx,DT];exact adZ _ _ _
     have:=LV.len;refine⟨rfl,aY (by omega) (by omega) ⟨_,?_,by omega,by omega,rfl,?_⟩⟩
     .omega
     .rw[LW];exact(dZ.p4.p4.p4.p5).right
    .rw[eW (by omega)] at bY;have e5:gT T q.2.1.ln=gT (S2,kA,kz) ((bj.take (n+1).toNat).flatMap nC):=by rw[show(n+1).toNat=n.toNat+1 by omega,mz,Qg,hT]
     rw[e5] at bY;refine aY (by omega) (by omega) ⟨_,?_,by omega,by omega,rfl,bY.aF (by rw[Sh hq];ac_rfl)⟩;omega
   .rw[eW (by omega)] at bA;have hU:=Qk (fo:=kz) (bj.flatMap nC) wO rD;obtain⟨U,DT⟩:∃U,U=gT (S2,kA,kz) (bj.flatMap nC):=⟨_,rfl⟩;rw[<-DT] at hU bA;obtain⟨u1,u2,u3,u4,u5⟩:=hU;refine⟨U.1.bn,?_,U.1,P2,U.2.1,xW,U.2.2,rfl,u1,u2,by rw[u4,Su];exact AZ,by omega,?_,by omega,bA.right.right,λr hr=>Sj r (.step hp ?_ (LS▸hr))⟩
    .omega
    .rw[LS,gp,iB];omega
    .rw[DT,gu,ah2]
theorem ah5 {h:Int} (hh:V O (HH b a top P S*F) w) (hs:dv top S) (h0:0<=h) (h1:h<=18446744073709551615): ae 188 #[al b,ah h] w λv w'=>(bg S h=none/\v=zv 2 none 0 0 none 0 0/\V O (HH b a top P S*F) w')\/ ((∃o,bg S h=some o)/\LQ O F b a top (fR S [] [] (1,h)).1 (fR S [] [] (1,h)).2.1 [] (fR S [] [] (1,h)).2.2 (zv 0) v w'):=by
 apply Ym;refine ay (rR hh hs.ok h0 h1) ?_;rintro _ w1 ⟨rfl,⟨hp,rfl⟩|⟨k,o,hp,hk,rfl⟩⟩
 .exact⟨_,_,rfl,aW rfl (.inl ⟨hp,rfl,hh⟩)⟩
 refine⟨_,_,rfl,aw rfl<|aG hh λk4 w2 h2=> ?_⟩;refine ay (LM (x:=(1,h)) (FL.start h2) hs ⟨(show-9223372036854775808<=(1:Int)/\(1:Int)<=9223372036854775807 by decide),h0,h1⟩ (by simp) (by simp)) ?_;rintro _ w3 ⟨rfl,h3⟩;obtain⟨q1,q2,q3,q4,q5⟩:=JX (fo:=[]) (1,h) hs nm.nil;have hc:=hs.topB.bn;simp only[yk] at q5;refine⟨rfl,ay (LR h3 q1 q2 (by simp;omega) (by omega)) ?_⟩;rintro _ w4 ⟨r,P',pg,cg,pf,cf,g1,g2,g3,g4,g5,g6,rfl,h4⟩;exact⟨_,_,_,_,_,_,rfl,.inr ⟨⟨o,hp⟩,r,P',pg,cg,pf,cf,g1,g2,g3,g4,g5,g6,rfl,h4⟩⟩
end
theorem ah6 {n:Nat} (h:n<=8):fX (an (iI (0,0))) n=(List.replicate n ((0,0):Int×Int)).flatMap jO:=by
 have:n=0\/n=1\/n=2\/n=3\/n=4\/n=5\/n=6\/n=7\/n=8:=by omega
 rw[fX,wW];rcases this with rfl|rfl|rfl|rfl|rfl|rfl|rfl|rfl|rfl<;>rfl
section
variable {O w:ao} {F:HP} {b a:Nat} {top:Int} {P:PM} {S:HS}
theorem DU {k:Nat} {o:OM} {L:Loc} (h:V O (iq k o L*F) w):V O (ab k (oA o L) 350*(aE 139 2 jO L.pl o.ln.length L.cl o.ln*(aE 26 1 bS L.pi o.cj.length L.ci o.cj*F))) w:=h.aF (by rw[iq,u0];ac_rfl)
theorem DV {k:Nat} {o:OM} {L:Loc} (h:V O (ab k (oA o L) 350*(aE 139 2 jO L.pl o.ln.length L.cl o.ln*(aE 26 1 bS L.pi o.cj.length L.ci o.cj*F))) w):V O (iq k o L*F) w:=h.aF (by rw[iq,u0];ac_rfl)
theorem ah7 {slots outer:Int} (hh:V O (HH b a top P S*F) w) (hs:dv top S) (h0:0<=outer) (h1:outer<=18446744073709551615): ae 196 #[al b,aa slots,ah outer] w λv w'=>v=ak #[ah (qA S slots outer).2.1,aa (qA S slots outer).2.2]/\∃P',V O (HH b a top P' (qA S slots outer).1*F) w':=by
 apply Yn;refine aw rfl<|bU (λaQ=> ?_) (λbW=>bU (λCK=> ?_) (λhle=> ?_))
 .rw[qA,if_pos (.inl aQ)];exact⟨rfl,P,hh⟩
 .rw[qA,if_pos (.inr (by omega))];exact⟨rfl,P,hh⟩
 obtain⟨n,rfl⟩:∃n:Nat,slots=n:=⟨slots.toNat,by omega⟩;have e0:qA S n outer=if outer=0 then put S (mf n 0) else match bg S outer with
   |none=>(S,0,2)
   |some o=>if o.ou≠0 then(S,0,1) else if(put S (mf n outer)).2.2=0 then(cF (put S (mf n outer)).1 outer {o with cj:=o.cj++[(put S (mf n outer)).2.1]},(put S (mf n outer)).2.1,0) else(S,0,3):=by
  rw[qA,if_neg (by omega)];simp only[cu];rfl
 rw[e0];refine IL (l:=n) (c:=n) Hd hh (eJ _) (by omega) (by omega) λp1 w1 h2=> ?_;have An:((fX (an (iI (0,0))) n).take (n*2))=(List.replicate n ((0,0):Int×Int)).flatMap jO:=by rw[ah6 (by omega),eW];rw[td wm,List.length_replicate];exact eJ _
 rw[An] at h2;refine aG h2 λk2 w2 h3=> ?_;have h4:V O (iq k2 (mf n outer) ⟨p1,n,none,0⟩*(HH b a top P S*F)) w2:=by
  refine DV ((fE 26 1 bS h3).aF ?_);have el:(mf n outer).ln.length=n:=by simp[mf]
  have ec:oA (mf n outer) ⟨p1,n,none,0⟩=#[aH 1,ah outer,aa 0,af p1 n n,aP]:=by simp[oA,mf]
  rw[ec];dsimp only;rw[el];show aE 26 1 bS none 0 0 []*(ab k2 _ 350*(own 139 2 p1 n n ((List.replicate n ((0,0):Int×Int)).flatMap jO)*(HH b a top P S*F)))=ab k2 _ 350*(own 139 2 p1 n n ((List.replicate n ((0,0):Int×Int)).flatMap jO)*(aE 26 1 bS none 0 0 []*(HH b a top P S*F)));ac_rfl
 have Hh:=h4.p1;refine cy (λcp=> ?_) (λhz=> ?_)
 .have cp:outer≠0:=by simpa using cp
  rw[if_neg cp];refine ay (rR Hh hs.ok h0 h1) ?_;rintro _ w3 ⟨rfl,⟨hp,rfl⟩|⟨k,o,hp,hk,rfl⟩⟩
  .refine⟨_,_,rfl,λe w=>e=2/\w=w3,aw (by decide) ⟨rfl,rfl⟩,?_⟩;rintro u e w4 ⟨rfl,rfl⟩;rw[hp];exact aW (by decide) ⟨rfl,P,h4.right⟩
  rw[hp];dsimp only;obtain⟨k',L,R,cV,h5,_⟩:=HH.at Hh hs.ok hp;rw[hk] at cV;cases cV;refine⟨_,_,rfl,λe w=>e=(if o.ou≠0 then 1 else 0)/\w=w3,aW rfl<|aq<|az (n:=o.ou) (u6 h5 (i:=1) rfl)<|cy (λh=>⟨?_,rfl⟩) (λh=>⟨?_,rfl⟩),?_⟩
  .rw[if_pos (by simpa using h)]
  .rw[if_neg (by simpa using h)]
  rintro u e w4 ⟨rfl,rfl⟩;by_cases ho:o.ou=0
  .rw[if_neg (show¬o.ou≠0 from λq=>q ho),if_neg (show¬o.ou≠0 from λq=>q ho)];refine aw rfl<|aq<|bh (HH.c1 Hh)<|ay (Sf h4 hs.ok) ?_;rintro _ w5 ⟨rfl,⟨he,h6⟩|⟨he,h6⟩⟩
   .rw[if_pos he];have cv:=JO hs.ok he;have hb:=hs.topB.put (JY hs.tp.1 (slots:=n) (by omega) ⟨h0,h1⟩) he;obtain⟨x,hx⟩:∃x,x=(put S (mf n outer)).2.1:=⟨_,rfl⟩;have Sv:outer≠x:=λe=>by rw[e,hx,cv] at hp;cases hp
    have rE:bg (put S (mf n outer)).1 outer=some o:=by rw[qx hs.ok he,<-hx,if_neg Sv];exact hp
    obtain⟨Sw,L2,R2,mn,h7,LX⟩:=HH.at h6 hb.ok rE;have LY:Sw=k:=by
     have:sN P (put S (mf n outer)).2.1 (some k2) outer=P outer:=by rw[sN,<-hx,if_neg Sv]
     rw[this,hk] at mn;exact(Option.some.inj mn).symm
    subst LY;have uW:=hs.F9 hp;have xX:=hs.topB.bn;have h8:=DU h7;refine⟨_,_,rfl,aW (by simp[he])<|aq<|aN (aB h8 (i:=4) rfl)<|aG h8 λnr w6 h9=> ?_⟩;rw[<-hx] at h9 ⊢;refine ju uI gL (by decide) uu (x:=x) (h9.p3.p1) rfl (by simp only[maxLen];omega) (by omega) λp' c' w7 aV=> ?_;refine aq<|bD (i:=4) (aV.p2.p2) (by simp[oA]) λw8 bu=>⟨by rw[he],_,LX {o with cj:=o.cj++[x]} ⟨L2.pl,L2.cl,p',c'⟩ F w8 (DV ?_)⟩;have el:(o.cj++[x]).length=o.cj.length+1:=by simp
    unfold oA;dsimp only;rw[el];exact bu
   .rw[if_neg he];rw[ue hs.ok he];exact⟨_,_,rfl,aw (by simp) ⟨rfl,P,h6⟩⟩
  .rw[if_pos (show o.ou≠0 from ho),if_pos (show o.ou≠0 from ho)];exact aW rfl ⟨rfl,P,h4.right⟩
 .have hz:outer=0:=by simpa using hz
  subst hz;rw[if_pos rfl];refine aq<|bh (HH.c1 Hh)<|ay (Sf h4 hs.ok) ?_;rintro _ w5 ⟨rfl,⟨he,h6⟩|⟨he,h6⟩⟩
  .exact⟨_,_,rfl,rfl,_,h6⟩
  .refine⟨_,_,rfl,rfl,P,?_⟩;rw[ue hs.ok he];exact h6
theorem ah8 {x:Int×Int} (h:V O F w):ae 337 #[an (iI x)] w λv w'=>v=aC (yZ x)/\V O F w':=by
 apply Yu;refine aG h λk1 w1 h1=> ?_;have h1:V O (ab k1 (iI x) 139*F) w1:=h1;have c0:=aB h1 (i:=0) (v:=aa x.1) rfl;have c1:=aB h1 (i:=1) (v:=ah x.2) rfl;refine az c0<|cy (λe0=> ?_) (λe0=> ?_)
 .have e0:x.1=0:=by simpa using e0
  refine az c1<|cy (λe1=>⟨?_,h1.right⟩) (λe1=> ?_)
  .have e1:x.2=0:=by simpa using e1
   simp[yZ,e0,e1]
  .have e1:x.2≠0:=by simpa using e1
   refine az c0<|aw (by simp[e0])<|az c0 ⟨?_,h1.right⟩;simp[yZ,e0,e1]
 .have e0:x.1≠0:=by simpa using e0
  refine az c0<|cy (λe1=>⟨?_,h1.right⟩) (λe1=>az c0 ⟨?_,h1.right⟩)
  .have e1:x.1=1:=by simpa using e1
   simp[yZ,e1]
  .have e1:x.1≠1:=by simpa using e1
   rw[yZ];congr 1;rw[sX];simp[e0,e1]
def zw (O:ao) (F:HP) (b a:Nat) (top:Int) (r:yX) (v:Value) (w':ao):Prop:=
 (r.1≠0/\v=zv r.1 none 0 0 none 0 0/\∃P',V O (HH b a top P' r.2.1*F) w')\/(r.1=0/\LQ O F b a top r.2.1 r.2.2.1 [] r.2.2.2 (zv 0) v w')
theorem ah9 {h:Int} (hh:V O (HH b a top P S*F) w) (hs:dv top S) (h0:0<=h) (h1:h<=18446744073709551615): ae 188 #[al b,ah h] w (zw O F b a top (yY S h)):=by
 refine ay (ah5 hh hs h0 h1) ?_;rintro v w' (⟨hp,rfl,h2⟩|⟨⟨o,hp⟩,h2⟩)
 .rw[yY,hp];exact .inl ⟨(show(2:Int)≠0 by decide),rfl,P,h2⟩
 .rw[yY,hp];exact .inr ⟨rfl,h2⟩
theorem aia {h slot:Int} {x:Int×Int} (hh:V O (HH b a top P S*F) w) (hs:dv top S) (hx:AX x) (h0:0<=h) (h1:h<=18446744073709551615): ae 270 #[al b,ah h,aa slot,an (iI x)] w (zw O F b a top (y4 top S h slot x)):=by
 apply Ys;refine aG hh λk1 w1 h2=> ?_;have h2:V O (ab k1 (iI x) 139*(HH b a top P S*F)) w1:=h2;have xU:=h2.p1;have bad:∀{e:Int} {w:ao},e≠0->V O (ab k1 (iI x) 139*(HH b a top P S*F)) w->zw O F b a top (e,S,[],[]) (zv e none 0 0 none 0 0) w:=λhe h=>.inl ⟨he,rfl,P,h.right⟩;refine ay (rR xU hs.ok h0 h1) ?_;rintro _ w2 ⟨rfl,⟨hp,rfl⟩|⟨k,o,hp,hk,rfl⟩⟩
 .rw[y4,hp];exact⟨_,_,rfl,aW rfl (bad (by decide) h2)⟩
 rw[y4,hp];dsimp only;refine⟨_,_,rfl,aw rfl<|bU (λaQ=> ?_) (λbW=> ?_)⟩
 .rw[if_pos (.inl aQ)];exact bad (by decide) h2
 obtain⟨k',L,R,cV,h3,_⟩:=HH.at xU hs.ok hp;rw[hk] at cV;cases cV;refine aq<|aN (u6 h3 (i:=3) rfl)<|bU (λhle=> ?_) (λCK=> ?_)
 .rw[if_pos (.inr (.inl (by omega)))];exact bad (by decide) h2
 refine bz h2 rfl<|ay (ah8 h2) ?_;rintro _ w3 ⟨rfl,h4⟩;refine cR<|cy (λhr=> ?_) (λhr=> ?_)
 .rw[if_pos (.inr (.inr (by simpa using hr)))];exact bad (by decide) h4
 have hr:yZ x=true:=by simpa using hr
 rw[if_neg (by simp[hr];omega)];obtain⟨n,rfl⟩:∃n:Nat,slot=n:=⟨slot.toNat,by omega⟩;rw[cu];have hn:n<o.ln.length:=by omega
 obtain⟨S1,fW⟩:∃S1,S1=if x.1=1 then(ke top S x.2).1 else S:=⟨_,rfl⟩;refine⟨λw=>(x.1=1->(ke top S x.2).2.2=0)/\V O (ab k1 (iI x) 139*(HH b a top P S1*F)) w,az (n:=x.1) (aB h4 (i:=0) rfl)<|cy (λe1=> ?_) (λe1=> ?_),?_⟩
 .have e1:x.1=1:=by simpa using e1
  rw[if_pos e1];rw[if_pos e1] at fW;refine az (n:=x.2) (aB h4 (i:=1) rfl)<|ay (Se (h4.p1) hs hx.2.1 hx.2.2) ?_;rintro _ w4 ⟨rfl,h5⟩;refine⟨_,_,rfl,cy (λhe=> ?_) (λhe=> ?_)⟩
  .have he:(ke top S x.2).2.2≠0:=by simpa using he
   rw[if_pos he];refine .inl ⟨he,rfl,P,?_⟩;have e:(ke top S x.2).1=S:=by
    revert he;unfold ke;split
    .intro _;rfl
    .split
     .intro _;rfl
     .split
      .intro _;rfl
      .intro he;exact absurd rfl he
   rw[e] at h5;exact(h5.p1).right
  .have he:(ke top S x.2).2.2=0:=by simpa using he
   refine⟨λ_=>he,?_⟩;rw[fW];exact h5.p1
 .have e1:x.1≠1:=by simpa using e1
  rw[if_neg e1] at fW;rw[fW];exact⟨λe=>absurd e e1,h4⟩
 rintro u w5 ⟨hup,h5⟩;have mC:dv top S1:=by rw[fW];split;exact(J0 hs).1;exact hs
 obtain⟨o1,sD,CJ,_⟩:∃o1,bg S1 h=some o1/\o1.ln=o.ln/\True:=by
  rw[fW];split
  .obtain⟨o',q1,q2,_⟩:=ad8 (top:=top) (h:=x.2) hs.ok hp;exact⟨o',q1,q2,trivial⟩
  .exact⟨o,hp,rfl,trivial⟩
 have amV:S1.bn=S.bn/\S1.aR=S.aR:=by rw[fW];split;exact(J0 hs).2;exact⟨rfl,rfl⟩
 have goal:(if x.1=1 then(if(ke top S x.2).2.2≠0 then((ke top S x.2).2.2,S,[],[]) else(0,pD (ke top S x.2).1 h n x)) else(0,pD S h n x):yX)=(0,pD S1 h n x):=by
  rw[fW];by_cases e1:x.1=1
  .rw[if_pos e1,if_pos e1,if_neg (by simp[hup e1])]
  .rw[if_neg e1,if_neg e1]
 rw[goal];have hL:=ad9 (h:=h) (i:=n) (x:=x) mC hx;have DW:=hs.topB.bn;have Sx:pD S1 h n x=fR (cF S1 h {o1 with ln:=o1.ln.set n x}) [] [] (o1.ln.getD n (0,0)):=by rw[pD,sD]
 refine aG h5 λrG w6 h6=> ?_;have h7:V O (FL rG b [] [] []*(HH b a top P S1*(ab k1 (iI x) 139*F))) w6:=(FL.start h6).p2.p1;obtain⟨Sw,L2,R2,mn,h8,LX⟩:=HH.at (h7.p1) mC.ok sD;rw[hk] at mn;cases mn;have h9:=DU h8;obtain⟨y,hy⟩:∃y,o1.ln[n]?=some y:=⟨_,gm (by rw[CJ];exact hn)⟩;have hyd:o1.ln.getD n (0,0)=y:=by simp[List.getD,hy]
 have aid:AX y:=(mC.fN h o1 sD).ln y (dF hy);have Sy:=h9.right.left;refine aq<|aN (aB h9 (i:=3) rfl)<|dC (i:=(n:Int)) wm Sy (by decide) (by omega) (by rw[cu];exact hy) λg hg=> ?_;rw[cu];refine vK wm Sy hg hy<|aG h9 λxP w7 aV=>bL aV rfl rfl (DS y) λw8 bu=> ?_;have bA:=(bu.aF (B:=ab k (oA o1 L2) 350*(aE 139 2 jO L2.pl o1.ln.length L2.cl o1.ln*(aE 26 1 bS L2.pi o1.cj.length L2.ci o1.cj*(R2*(FL rG b [] [] []*(ab k1 (iI x) 139*F))*ab xP (iI y) 139)))) (by show ab xP (iI y) 139*_=_;ac_rfl)).drew;refine aq<|aN (aB bA (i:=3) rfl)<|bz (bA.right.right.right.left.right.right) rfl<|dC (i:=(n:Int)) wm bA.right.left (by decide) (by omega) (by rw[cu];exact hy) λg2 pz=> ?_;rw[cu];rw[<-Sp.add_zero (⟨g2,n*2,none⟩:Addr)];refine rh (o:=0) (n:=2) (y':=x) (vs:=iI x) wm (bA.p1) pz hy (by decide) rfl (DS x) rfl λw9 bN=> ?_;have el:(o1.ln.set n x).length=o1.ln.length:=by simp
 have bY:=LX {o1 with ln:=o1.ln.set n x} L2 (FL rG b [] [] []*(ab k1 (iI x) 139*(ab xP (iI y) 139*F))) w9 (DV (by unfold oA;dsimp only;rw[el];exact bN.aF (by show _=ab k (oA o1 L2) 350*_;ac_rfl)));have cE:=bY.p1;refine bz (cE.right.right.right) rfl<|ay (LM (x:=y) cE (mC.slot sD hx) aid (by simp) (by simp)) ?_;rintro _ dn ⟨rfl,df⟩;rw[hyd] at Sx;rw[<-Sx] at df;obtain⟨q1,q2,q3,q4,q5⟩:=hL;refine⟨rfl,ay (LR df q1 q2 (by simp;omega) (by omega)) ?_⟩;rintro _ dP ⟨r,P',pg,cg,pf,cf,g1,g2,g3,g4,g5,g6,rfl,dZ⟩;refine⟨_,_,_,_,_,_,rfl,.inr ⟨rfl,r,P',pg,cg,pf,cf,g1,g2,g3,g4,g5,g6,rfl,?_⟩⟩;exact(dZ.p4.p4.g1).right
end
theorem Sz (l:aJ):l.flatMap bS=oo l:=adu l
theorem SA:oM au 357 26 358 (λx:Int=>ah x) (λ_=>True):=AE (by kernel_rfl) (by kernel_rfl)
theorem aie (w:ao):(zeroValue 358).run au w=.ok (an #[]) w:=by kernel_rfl
def xY (r:Nat) (f:Int->Option Unit):HP:=gR (λx:Int=>ah x) (λ_:Unit=>an #[]) (λ_=>True) r f
section
variable {O w:ao} {F:HP} {b a:Nat} {top:Int} {P:PM} {S:HS}
theorem aif {p:av} {c:Nat} {l:aJ} (h:V O F w) (hx:bd F 1 p l.length (oo l)) (hl:l.length<=1000000): ae 146 #[af p l.length c] w λv w'=>∃q d,v=af q l.length d/\V O (aE 26 1 bS q l.length d l*F) w':=by
 apply Yg;refine cy (λhn=> ?_) (λhn=> ?_)
 .have hp:p=none:=by cases p with|none=>rfl|some a=>simp at hn
  have h0:l=[]:=by
   apply m5;rcases wH l.length with h0|h0
   .exact h0
   .obtain⟨a,e⟩:=(hx _ _ h).2.1 h0;rw[hp] at e;cases e
  subst h0;exact⟨none,0,rfl,fE _ _ _ h⟩
 .refine aG h λk1 w1 h1=> ?_;have h2:=h1.lx (t:=26) (sz:=1) (n:=0) rfl (by decide);have hold:Rd w1 1 p l.length (oo l):=hx _ _ h2.right;refine lW uI h2 hold (λu hu=> ?_) (by simp only[maxLen];omega) (by omega) λp' c' w' h3=> ?_
  .obtain⟨x,_,rfl⟩:=fC.1 hu;rfl
  .rw[dc];refine⟨p',c',rfl,?_⟩;rw[dc] at h3;show V O (own 26 1 p' l.length c' (l.flatMap bS)*F) w';rw[Sz];exact h3
theorem LZ {p:av} {l:aJ} {i:Nat} {x:Int} {a:Addr} (h:Rd w 1 p l.length (oo l)) (ha:p=some a) (hx:l[i]?=some x):w.cell? (a.add (i*1))=some (ah x):=by rw[jT];exact h.get ha (by rw[oo,eZ,hx];rfl)
theorem aih {p:av} {c:Nat} {l:aJ} (hh:V O (HH b a top P S*F) w) (hs:dv top S) (gx:bd F 1 p l.length (oo l)) (hl:l.length<=1000) (hr:∀x∈l,0<=x/\x<=18446744073709551615): ae 84 #[al b,af p l.length c] w (zw O F b a top (xz S l)):=by
 apply X9;refine xh (λx:Int=>ah x) (λ_:Unit=>an #[]) (λ_=>True) hh λk1 w1 h1=> ?_;have h1:V O (xY k1 (λ_=>none)*(HH b a top P S*F)) w1:=h1;have bad:∀{e:Int} {w:ao} {X:HP},e≠0->V O (X*(HH b a top P S*F)) w->zw O F b a top (e,S,[],[]) (zv e none 0 0 none 0 0) w:=λhe h=>.inl ⟨he,rfl,P,h.right⟩;refine⟨λn w m=>0<=n/\n<=l.length/\m=l.length- n.toNat/\(∀x∈l.take n.toNat,∃o,bg S x=some o)/\V O (xY k1 (λ_=>none)*(HH b a top P S*F)) w,⟨_,by omega,by omega,rfl,by simp,h1⟩,?_⟩;rintro u n w2 m ⟨n0,nl,rfl,lU,h2⟩;refine bU (λaQ=> ?_) (λbW=> ?_)
 .have hi:n.toNat<l.length:=by omega
  obtain⟨x,hx⟩:∃x,l[n.toNat]?=some x:=⟨_,gm hi⟩;have wu:=dF hx;have sM:=hr x wu;have rd:=gx _ _ h2.right.right;have xU:=h2.p1;refine fM rd n0 (by omega) λad DX=>az (n:=x) (LZ rd DX hx)<|ay (rR xU hs.ok sM.1 sM.2) ?_;rintro _ w3 ⟨rfl,⟨hp,rfl⟩|⟨k,o,hp,hk,rfl⟩⟩
  .have e:xz S l=(2,S,[],[]):=by rw[xz,if_pos];rw[Cg];exact⟨x,wu,by rw[hp];rfl⟩
   rw[e];exact⟨_,_,rfl,aW rfl (bad (by decide) h2)⟩
  .refine⟨_,_,rfl,aw rfl<|aY (by omega) (by omega) ⟨_,?_,by omega,by omega,rfl,λy hy=> ?_,h2⟩⟩
   .omega
   .rw[show(n+1).toNat=n.toNat+1 by omega,fV,hx] at hy;rcases fj.1 hy with hy|hy
    .exact lU y hy
    .simp at hy;subst hy;exact⟨o,hp⟩
 rw[eW (by omega)] at lU;clear bW nl n0;have aii:¬l.any (λh=>(bg S h).isNone)=true:=by rw[Cg];rintro⟨x,hx,he⟩;obtain⟨o,ho⟩:=lU x hx;rw[ho] at he;cases he
 rw[xz,if_neg aii];refine⟨λn w m=>0<=n/\n<=l.length/\m=l.length- n.toNat/\(l.take n.toNat).Nodup/\(∀x∈l.take n.toNat,∀o,bg S x=some o->o.ou=0)/\∃f,(∀x,(f x).isSome=true↔x∈l.take n.toNat)/\V O (xY k1 f*(HH b a top P S*F)) w,⟨_,by omega,by omega,rfl,by simp,by simp,_,by simp,h2⟩,?_⟩;rintro u n w4 m ⟨n0,nl,rfl,fm,BH,f,hf,h4⟩;refine bU (λaQ=> ?_) (λbW=> ?_)
 .have hi:n.toNat<l.length:=by omega
  obtain⟨x,hx⟩:∃x,l[n.toNat]?=some x:=⟨_,gm hi⟩;have wu:=dF hx;have sM:=hr x wu;have rd:=gx _ _ h4.right.right;refine fM rd n0 (by omega) λad DX=>az (n:=x) (LZ rd DX hx)<|xj (kf:=λx:Int=>ah x) (vf:=λ_:Unit=>an #[]) (S:=λ_=>True) SA (x:=x) h4 trivial (aie w4) ?_;rw[if_pos rfl];refine⟨#[],(f x).isSome,by cases f x<;>rfl,aG h4 λlL w5 h5=>bL h5 rfl rfl (by simp) λw6 h6=> ?_⟩;have h6:V O (ab lL #[] 358*(xY k1 f*(HH b a top P S*F))) w6:=h6;have SB:=h6.p2;obtain⟨o,hp⟩:=lU x wu;refine ay (rR SB hs.ok sM.1 sM.2) ?_;rintro _ w7 ⟨rfl,⟨cG,rfl⟩|⟨k,o',cG,hk,rfl⟩⟩
  .rw[hp] at cG;cases cG
  rw[hp] at cG;cases cG;obtain⟨k',L,R,cV,h7,_⟩:=HH.at SB hs.ok hp;rw[hk] at cV;cases cV;have no:(¬l.Nodup\/∃h∈l,∃o,bg S h=some o/\o.ou≠0)->zw O F b a top (if¬l.Nodup\/∃h∈l,∃o,bg S h=some o/\o.ou≠0 then(1,S,[],[]) else(0,iT S l,l,[])) (zv 1 none 0 0 none 0 0) w7:=λh=>by rw[if_pos h];exact bad (X:=ab lL #[] 358*xY k1 f) (by decide) (h6.g1)
  have e3:l=l.take n.toNat++x::l.drop (n.toNat+1):=by
   conv=>lhs;rw[<-mK n.toNat l,ll hi]
   rw[gm hi] at hx;rw[Option.some.inj hx]
  refine⟨_,_,rfl,aq<|az (n:=o.ou) (u6 h7 (i:=1) rfl)<|cy (λcp=>no (.inr ⟨x,wu,o,hp,by simpa using cp⟩)) (λhe=>cy (λhtw=>no (.inl λhN=> ?_)) (λcp=> ?_))⟩
  .have hm:=(hf x).1 htw;rw[e3] at hN;exact(sb.1 hN).2.2 x hm x (.head _) rfl
  .have he:o.ou=0:=by simpa using he
   have Cz:x∉l.take n.toNat:=λhm=>by rw[(hf x).2 hm] at cp;cases cp
   have mz:l.take (n+1).toNat=l.take n.toNat++[x]:=by rw[show(n+1).toNat=n.toNat+1 by omega,fV,hx];rfl
   have Hi:V O (xY k1 f*(HH b a top P S*(F*ab lL #[] 358))) _:=h6.e3.e3.e3;refine xk (kf:=λx:Int=>ah x) (vf:=λ_:Unit=>an #[]) (v:=()) SA Hi trivial λw8 h8=> ?_;have h8:V O (xY k1 (fg f x (some ()))*(HH b a top P S*(F*ab lL #[] 358))) w8:=h8;have h9:V O (xY k1 (fg f x (some ()))*(HH b a top P S*F)) w8:=(h8.e3).right;refine aY (by omega) (by omega) ⟨_,?_,by omega,by omega,rfl,?_,?_,fg f x (some ()),?_,h9⟩
   .omega
   .rw[mz];refine sb.2 ⟨fm,by simp,λy hy z hz e=> ?_⟩;rw[mL] at hz;exact Cz (hz▸e▸hy)
   .intro y hy o' sj;rw[mz] at hy;rcases fj.1 hy with hy|hy
    .exact BH y hy o' sj
    .rw[mL] at hy;subst hy;rw[hp] at sj;cases sj;exact he
   .intro y;rw[mz,fg,fj,mL];by_cases e:y=x
    .simp[e]
    .rw[if_neg e,hf];simp[e]
 rw[eW (by omega)] at fm BH;have hg:¬(¬l.Nodup\/∃h∈l,∃o,bg S h=some o/\o.ou≠0):=by
  rintro(h|⟨x,hx,o,hp,cp⟩)
  .exact h fm
  .exact cp (BH x hx o hp)
 rw[if_neg hg];clear bW nl n0;have ug:V O (HH b a top P S*F) w4:=h4.right;have Jn:∀x∈l,∃o,bg S x=some o/\o.ou=0:=λx hx=>by obtain⟨o,hp⟩:=lU x hx;exact⟨o,hp,BH x hx o hp⟩
 refine⟨λn w m=>0<=n/\n<=l.length/\m=l.length- n.toNat/\V O (HH b a top P (iT S (l.take n.toNat))*F) w,⟨_,by omega,by omega,rfl,ug⟩,?_⟩;rintro u n w9 m ⟨n0,nl,rfl,h9⟩;refine bU (λaQ=> ?_) (λbW=> ?_)
 .have hi:n.toNat<l.length:=by omega
  obtain⟨x,hx⟩:∃x,l[n.toNat]?=some x:=⟨_,gm hi⟩;have wu:=dF hx;have sM:=hr x wu;have rd:=gx _ _ h9.right;obtain⟨z1,_,_,z4⟩:=Qm (l.take n.toNat) hs;obtain⟨o,hp⟩:=lU x wu;have vb:∃o',bg (iT S (l.take n.toNat)) x=some o':=by rw[z4,hp];exact⟨_,rfl⟩
  obtain⟨o',vb⟩:=vb;refine fM rd n0 (by omega) λad DX=>az (n:=x) (LZ rd DX hx)<|ay (rR h9 z1.ok sM.1 sM.2) ?_;rintro _ dn ⟨rfl,⟨cG,rfl⟩|⟨k,o'',cG,hk,rfl⟩⟩
  .rw[vb] at cG;cases cG
  rw[vb] at cG;cases cG;obtain⟨k',L,R,cV,aV,cl⟩:=HH.at h9 z1.ok vb;rw[hk] at cV;cases cV;have bu:=DU aV;refine⟨_,_,rfl,aq<|bD (i:=0) bu (by simp[oA]) λdP bA=>aY (by omega) (by omega) ⟨_,?_,by omega,by omega,rfl,?_⟩⟩
  .omega
  .have LW:iT S (l.take (n+1).toNat)=cF (iT S (l.take n.toNat)) x {o' with cn:=0}:=by rw[show(n+1).toNat=n.toNat+1 by omega,fV,hx];show iT S (l.take n.toNat++[x])=_;rw[aea,vb]
   rw[LW];exact cl {o' with cn:=0} L F dP (DV bA)
 .rw[eW (by omega)] at h9;obtain⟨z1,z2,z3,z4⟩:=aec hs fm Jn;have DW:=hs.topB.bn;refine ay (aif (c:=c) h9 (bd.right gx) (by omega)) ?_;rintro _ fF ⟨q,d,rfl,bA⟩;refine iE<|aG bA λL0 fZ bN=> ?_;have bY:V O (FL L0 b l [] []*(HH b a top P (iT S l)*F)) fZ:=by refine FL.aI (wt:=l) (gn:=[]) (fo:=[]) (lw:=l.length) (lg:=0) (lf:=0) (pw:=q) (cw:=d) (pg:=none) (cg:=0) (pf:=none) (cf:=0) ?_ rfl rfl rfl;have cE:=F4 (show V O (own 26 1 q l.length d (oo l)*(ab L0 #[al b,af q l.length d,aP,aP] 363*(HH b a top P (iT S l)*F))) fZ from bN.aF (by rw[aE,Sz];show ab L0 _ 363*_=_;ac_rfl));exact(fE 26 1 bS (fE 26 1 bS cE)).p2.p3
  refine ay (LR bY z1 z2 (by simp;omega) (by simp;omega)) ?_;rintro _ dH ⟨r,P',pg,cg,pf,cf,g1,g2,g3,g4,g5,g6,rfl,dZ⟩;exact⟨_,_,_,_,_,_,rfl,.inr ⟨rfl,r,P',pg,cg,pf,cf,g1,g2,g3,g4,g5,g6,rfl,dZ⟩⟩
def zx (S:HS) (h:Int):Int×Int:=match bg S h with|none=>(0,2)|some o=>(o.va,0)
theorem aik {h:Int} (hh:V O (HH b a top P S*F) w) (ho:bx S) (h0:0<=h) (h1:h<=18446744073709551615): ae 178 #[al b,ah h] w λv w'=>w'=w/\v=ak #[aa (zx S h).1,aa (zx S h).2]:=by
 apply Yk;refine ay (rR hh ho h0 h1) ?_;rintro _ w2 ⟨rfl,⟨hp,rfl⟩|⟨k,o,hp,hk,rfl⟩⟩
 .exact⟨_,_,rfl,aW rfl ⟨rfl,by rw[zx,hp]⟩⟩
 .obtain⟨k',L,R,cV,h7,_⟩:=HH.at hh ho hp;rw[hk] at cV;cases cV;exact⟨_,_,rfl,aw rfl<|aq<|az (n:=o.va) (u6 h7 (i:=2) rfl) ⟨rfl,by rw[zx,hp]⟩⟩
theorem ail {h n:Int} (hh:V O (HH b a top P S*F) w) (ho:bx S) (h0:0<=h) (h1:h<=18446744073709551615): ae 180 #[al b,ah h,aa n] w λv w'=>v=aa (rF S h n).2/\V O (HH b a top P (rF S h n).1*F) w':=by
 apply Yl;refine ay (rR hh ho h0 h1) ?_;rintro _ w2 ⟨rfl,⟨hp,rfl⟩|⟨k,o,hp,hk,rfl⟩⟩
 .exact⟨_,_,rfl,aw rfl ⟨by rw[rF,hp],by rw[rF,hp];exact hh⟩⟩
 .obtain⟨k',L,R,cV,h7,cl⟩:=HH.at hh ho hp;rw[hk] at cV;cases cV;have h8:=DU h7;refine⟨_,_,rfl,aW rfl<|aq<|bD (i:=2) h8 (by simp[oA]) λw3 h9=>⟨by rw[rF,hp],?_⟩⟩;rw[rF,hp];exact cl {o with va:=n} L F w3 (DV h9)
end
theorem C5 {O:ao} {k a t:Nat} {xs:List aM} {bG:Nat->HP} (hP:∀w,V O (bG 0) w->V O (ab k #[al a] t) w) (hA:∀w,V O (bG 0) w->∃s:AS cJ,bx s/\V O (Ar a s) w/\((cq 0 s.sp).map λp=>jf (kc p))=xs): iD au O 61 #[al k] bG xs:=by
 intro f b c B Bx cA hB hy F w h;show ae _ #[.func f b c,al k] w _;apply NV;refine bh ((hP _ (hB 0 _ h.left)).cell (i:=0) rfl)<|aw rfl<|aG h λk2 w1 h1=> ?_;have gO:=hP _ (hB 0 _ h1.right.left);obtain⟨s,hs,C6,rfl⟩:=hA _ (hB 0 _ h1.right.left);have hl:=hs.len;have hm:=hs.ie;obtain⟨p,c5,q,d,h2⟩:=Ar.aK (C6.cQ.e1);refine bh (gO.cell (i:=0) rfl)<|aq<|aN (h2.left.cell (i:=2) rfl) ?_;have hT:V O (own dI 3 p s.sp.length c5 (s.sp.flatMap bl)) w1:=h2.right.left;refine lW nT (V.lx (t:=dI) (sz:=3) (n:=0) h1 rfl (by decide)) hT.rd (λu hu=> ?_) (by simp only[maxLen];omega) (by omega) λp6 c6 w2 h3=> ?_
 .obtain⟨y,_,hu⟩:=zR.1 hu;exact kT y u hu
 rw[dc] at h3 ⊢;have h3:V O (aE dI 3 bl p6 s.sp.length c6 s.sp*(B 0*F)) w2:=h3;refine⟨λn w m=>0<=n/\n<=s.sp.length/\m=s.sp.length- n.toNat/\V O (aE dI 3 bl p6 s.sp.length c6 s.sp*(B (cq 0 (s.sp.take n.toNat)).length*F)) w,⟨_,by omega,by omega,rfl,h3⟩,?_⟩;rintro u n w3 m ⟨h0,h1,rfl,h4⟩;refine bU (λaQ=> ?_) (λbW=>.inl ?_)
 .obtain⟨i,rfl⟩:∃i:Nat,n=i:=⟨n.toNat,by omega⟩;rw[cu] at h4;have hi:i<s.sp.length:=by omega
  obtain⟨y,eT⟩:∃y,s.sp[i]?=some y:=⟨s.sp[i],by simp[hi]⟩;have dQ:s.sp[(i:Int).toNat]?=some y:=by rw[cu];exact eT
  have rz:=hs.g y (dF eT);have e1:((i:Int)+1).toNat=i+1:=by omega
  have e2:s.sp.take (i+1)=s.sp.take i++[y]:=by rw[fV,eT];rfl
  have e3:(s.sp.take i).length=i:=by rw[fB];omega
  refine dC bE h4.left (by decide) (by omega) dQ λg hg=>oF (vs:=(bl y).toArray) rfl (λj hj=> ?_)<|aG h4 λk3 w4 h5=>bL h5 rfl rfl (λu hu=>kT y u hu) λw5 h6=> ?_
  .rw[cu];exact(cU bE (j:=j) (v:=(bl y)[j]'(by rw[bE];exact hj)) h4.left hg eT hj (by simp[bE,hj])).trans (by simp[bE,hj])
  have h6:=h6.drew;have cl:∀(j:Nat) {v:Value},(bl y).toArray[j]?=some v->w5.drew.cell? ((aD k3).add j)=some v:=by intro j v hv;rw[du,dc];exact h6.left.cell hv
  refine gQ (cl 2 rfl)<|cy (λht=> ?_) (λhf=> ?_)
  .have ht:y.st=1:=by simpa using ht
   refine az (cl 1 rfl)<|bh (n:=nj y.x) (cl 0 rfl)<|fY (kV (i:=i) (g:=y.g) (by omega) (by omega) (by omega))<|bI ⟨cl 0 rfl,?_⟩;have hx:((cq 0 s.sp).map λp=>jf (kc p))[(cq 0 (s.sp.take i)).length]?=some (jf (hd i y.g,y.x)):=by
    have e4:s.sp=s.sp.take i++(y::s.sp.drop (i+1)):=by
     conv=>lhs;rw[<-mK i s.sp,ll hi]
     rw[gm hi] at eT;cases eT;rfl
    have e5:cq 0 s.sp=cq 0 (s.sp.take i)++(i,y)::cq (i+1) (s.sp.drop (i+1)):=by conv=>lhs;rw[e4,AR,e3,dc,cq,if_pos ht]
    rw[eZ,e5];simp[kc]
   refine nH (hy _ _ hx (ab k3 (bl y).toArray dI*(aE dI 3 bl p6 s.sp.length c6 s.sp*F)) _ (h6.aF (by ac_rfl))) ?_;rintro v w7 (⟨rfl,h7⟩|⟨rfl,h7⟩)
   .refine cR<|aw rfl<|aY (by omega) (by omega) ⟨_,?_,by omega,by omega,rfl,?_⟩
    .omega
    .rw[e1,e2,sB,if_pos ht,gp];exact(h7.p2.p2).right
   .exact cR<|aW rfl<|.inr ((h7.p2.p2.g1).right)
  .have hf:y.st≠1:=by simpa using hf
   refine aY (by omega) (by omega) ⟨_,by omega,by omega,by omega,rfl,?_⟩;rw[e1,e2,sB,if_neg hf,jS];exact h6.right
 .have e:s.sp.take n.toNat=s.sp:=by rw[eW];omega
  rw[e] at h4;rw[fk];exact h4.right
section
variable {O:ao} {b a:Nat} {top:Int} {P:PM} {S:HS}
theorem mF.aim {s:AS PO} (hs:mF P S s) (ho:bx S):((cq 0 (cN lN s).sp).map λp=>jf (kc p))=(fH 0 S.sp).map λh=>jf (h,P h):=by
 have cA:=hs.ok ho;have e1:(cq 0 (cN lN s).sp)=(cq 0 s.sp).map λp=>(p.1,⟨lN p.2.x,p.2.g,p.2.st⟩):=JM lN s.sp 0;have e2:fH 0 S.sp=fH 0 s.sp:=by rw[<-hs.om];exact PW zu s 0
 rw[e1,e2,qw,lq,lq];apply yj;intro p hp;obtain⟨h1,h2⟩:=uL p hp;show jf (hd p.1 p.2.g,lN p.2.x)=jf (hd p.1 p.2.g,P (hd p.1 p.2.g));have:bg s (hd p.1 p.2.g)=some p.2.x:=(rC cA).2 ⟨p.1,p.2,h1,h2,rfl,rfl⟩;rw[hs.ptr,this];rfl
theorem SC {w:ao} {F:HP} {x:av} (h:V O F w): ae 21 #[ag x] w λv w'=>∃k,v=.func (.func 29) #[] #[al k]/\V O (ab k #[ag x] 73*F) w':=by apply X2;exact aG h λk w1 h1=>⟨k,rfl,h1⟩
def Hj (h:Int):aM:=#[ah h]
theorem SD {k:Nat} {bG:Nat->HP} (ho:bx S) (hP:∀w,V O (bG 0) w->V O (ab k #[al b] 73) w) (hG:∀w,V O (bG 0) w->V O (HH b a top P S) w): iD au O 29 #[al k] bG ((fH 0 S.sp).map Hj):=by
 intro f f2 f3 B Bx cA hB hy F w h;show ae _ #[.func f f2 f3,al k] w _;apply X3;refine aG h λk1 w1 h1=>bh ((hP _ (hB 0 _ h1.right.left)).cell (i:=0) rfl)<|aw rfl<|bh ((hP _ (hB 0 _ h1.right.left)).cell (i:=0) rfl)<|aq<|bh (HH.c1 (hG _ (hB 0 _ h1.right.left)).cQ.e1)<|ay (xy h1) ?_;rintro _ w4 ⟨kk,t2,rfl,h4⟩;refine i6<|j7 ⟨O,61,_,(fH 0 S.sp).map λh=>jf (h,P h),λj=>ab kk #[al a] t2*(ab k1 #[.func f f2 f3] 105*(B j*F)),λc=>bM (c=.ret)*(Bx*F),rfl,⟨_,_,Tryz.func61,rfl⟩,h4,?_,C5 (a:=a) (t:=t2) (λw h=>h.left) (λw h=> ?_),?_,?_,?_⟩
 .intro x hx;obtain⟨y,_,rfl⟩:=fC.1 hx;rfl
 .obtain⟨s,hs,h2⟩:=HH.aK (hG _ (hB 0 _ h.right.right.left)).cQ.e1;exact⟨cN lN s,(hs.ok ho).cN,h2.right.left,hs.aim ho⟩
 .intro j x hx G G' T w5 hT h5;rw[eZ] at hx;obtain⟨y,eT,rfl⟩:=dd.1 hx;refine⟨_,_,rfl,hT (ab kk #[al a] t2*(ab k1 #[.func f f2 f3] 105*(B j*F))) _ _ h5 λw8 h8=> ?_⟩;have h9:=h8.a.p1.a.p1.a.p3.p3;refine Fm (h9.left.cell (i:=0) rfl) ?_;refine nH (hy j (Hj y) (by rw[eZ,eT];rfl) (ab k1 #[.func f f2 f3] 105*(ab kk #[al a] t2*(F*G'))) _ (h9.p2)) ?_;rintro v w9 (⟨rfl,aV⟩|⟨rfl,aV⟩)
  .exact cR<|aw rfl<|aV.p1.p2.g3
  .exact cR<|aW rfl<|(((aV.aF (B:=(ab kk #[al a] t2*ab k1 #[.func f f2 f3] 105)*((Bx*F)*G')) (by ac_rfl)).right.eL (p:=Code.ret=Code.ret) rfl).aF (by first|ac_rfl|(dsimp only;ac_rfl)))
 .intro D w5 h5;rw[fk] at h5 ⊢;exact iL h5 λw' h6=>.inl h6.right.right
 .intro D c w5 h5;have h5:=h5.aF (B:=bM (c=.ret)*(fw D*(Bx*F))) (by first|ac_rfl|(dsimp only;ac_rfl));obtain rfl:=h5.bM;exact yB<|iL h5.right λw' h6=>.inr h6
def Hk (k1 k2:Nat) (aR:Int) (ps:aJ) (Q:HP) (j:Nat):HP:=ex λp=>ex λc=>
 bM ((j:Int)<=max aR 0)*(ab k1 #[aa aR] 3*(ab k2 #[af p j c] 25*(aE 26 1 bS p j c (ps.take j)*Q)))
section
variable {w:ao} {k1 k2:Nat} {aR:Int} {ps:aJ} {Q F:HP} {j:Nat}
theorem Hk.aK (h:V O (Hk k1 k2 aR ps Q j*F) w):(j:Int)<=max aR 0/\∃p c,V O (ab k1 #[aa aR] 3*(ab k2 #[af p j c] 25*(aE 26 1 bS p j c (ps.take j)*(Q*F)))) w:=by obtain⟨p,h⟩:=V.ex h;obtain⟨c,h⟩:=V.ex h;have h:=h.a.p1.a.p1.a.p1.a.p2.p3.p4;exact⟨h.bM,p,c,h.right⟩
theorem Hk.aI {p:av} {c:Nat} (hj:(j:Int)<=max aR 0) (h:V O (ab k1 #[aa aR] 3*(ab k2 #[af p j c] 25*(aE 26 1 bS p j c (ps.take j)*(Q*F)))) w): V O (Hk k1 k2 aR ps Q j*F) w:=V.bO p (V.bO c ((h.eL hj).g4))
end
end
section
variable {O w:ao} {F:HP} {b a:Nat} {top:Int} {P:PM} {S:HS}
theorem ain {cs:aM} {t:TypeId} {K:Nat->ao->Prop} (h:V O F w) (hk:∀b w',V O (ab b cs t*F) w'->(∀{sz:Nat} {p:av} {l:Nat} {xs:dB},Rd w sz p l xs->Rd w' sz p l xs)->K b w'):new cs t w K:=hk _ _ (h.alloc _) λhx=>hx.mP ((V.start w).alloc _).right
theorem aio {p:av} {c:Nat} {l:List (Int×Int)} (h:V O F w) (hx:Rd w 2 p l.length (l.flatMap jO)) (hl:l.length<=1000000): ae 232 #[af p l.length c] w λv w'=>∃q d,v=af q l.length d/\V O (aE 139 2 jO q l.length d l*F) w':=by
 apply Yq;refine cy (λhn=> ?_) (λhn=> ?_)
 .have hp:p=none:=by cases p with|none=>rfl|some a=>simp at hn
  have h0:l=[]:=by
   apply m5;rcases wH l.length with h0|h0
   .exact h0
   .obtain⟨a,e⟩:=hx.2.1 h0;rw[hp] at e;cases e
  subst h0;exact⟨none,0,rfl,fE _ _ _ h⟩
 .refine ain h λk1 w1 h1 vB=> ?_;have h2:=h1.lx (t:=139) (sz:=2) (n:=0) rfl (by decide);have hold:Rd w1 2 p l.length (l.flatMap jO):=vB hx;refine lW Hd h2 hold (λu hu=> ?_) (by simp only[maxLen];omega) (by omega) λp' c' w' h3=> ?_
  .exact yG ahI u hu
  .rw[dc];refine⟨p',c',rfl,?_⟩;rw[dc] at h3;exact h3
theorem aip {x:av} {h:Int} (hh:V O F w): ae 142 #[ag x,ah h] w λv w'=>∃k k',v=.func (.func 231) #[] #[al k,al k']/\V O (ab k' #[ah h] 26*(ab k #[ag x] 73*F)) w':=by apply Yf;exact aG hh λk w1 h1=>aG h1 λk' w2 h2=>⟨k,k',rfl,h2⟩
def ja (q:(Int×Int)×Nat):aM:=#[aa q.2,an (iI q.1)]
theorem aiq {k k':Nat} {h:Int} {o:OM} {bG:Nat->HP} (hs:pB top S) (hp:bg S h=some o) (hP:∀w,V O (bG 0) w->V O (ab k #[al b] 73) w) (hP':∀w,V O (bG 0) w->V O (ab k' #[ah h] 26) w) (hG:∀w,V O (bG 0) w->V O (HH b a top P S) w): iD au O 231 #[al k,al k'] bG (o.ln.zipIdx.map ja):=by
 intro f f2 f3 B Bx cA hB hy F w hh;show ae _ #[.func f f2 f3,al k,al k'] w _;apply Yp;have hb:=hB 0 _ hh.left;have hr:=ni hs.ok hp;have eB:=(hs.fN h o hp).len;have hH:=(hG _ hb).cQ.e1;refine bh ((hP _ hb).cell (i:=0) rfl)<|az ((hP' _ hb).cell (i:=0) rfl)<|ay (rR hH hs.ok (by omega) hr.2) ?_;rintro _ w1 ⟨rfl,⟨cG,rfl⟩|⟨kk,o',cG,hk,rfl⟩⟩
 .rw[hp] at cG;cases cG
 rw[hp] at cG;cases cG;obtain⟨k2,L,R,mn,h3,_⟩:=HH.at hH hs.ok hp;rw[hk] at mn;cases mn;have fQ:Rd w1 2 L.pl o.ln.length (o.ln.flatMap jO):=V.rd (t:=139) (c:=L.cl) (show V O (own 139 2 L.pl o.ln.length L.cl (o.ln.flatMap jO)) w1 from (show V O (ab kk (oA o L) 350*(aE 139 2 jO L.pl o.ln.length L.cl o.ln*aE 26 1 bS L.pi o.cj.length L.ci o.cj)) w1 from h3.left).right.left);refine⟨_,_,rfl,aw rfl<|aq<|aN (u6 h3 (i:=3) rfl)<|ay (aio (c:=L.cl) hh fQ (by omega)) ?_⟩;rintro _ w2 ⟨q,d,rfl,h4⟩;refine iE ⟨λn w m=>0<=n/\n<=o.ln.length/\m=o.ln.length- n.toNat/\V O (aE 139 2 jO q o.ln.length d o.ln*(B n.toNat*F)) w,⟨_,by omega,by omega,rfl,h4⟩,?_⟩;rintro u n w3 m ⟨n0,nl,rfl,h5⟩;refine bU (λaQ=> ?_) (λbW=>.inl ?_)
 .have hi:n.toNat<o.ln.length:=by omega
  obtain⟨x,hx⟩:∃x,o.ln[n.toNat]?=some x:=⟨_,gm hi⟩;refine dC wm h5.left (by decide) n0 hx λg hg=>vK wm h5.left hg hx<|aG h5 λrG w4 h6=>bL h6 rfl rfl (DS x) λw5 h7=> ?_;have h7:V O (ab rG (iI x) 139*(aE 139 2 jO q o.ln.length d o.ln*(B n.toNat*F))) w5:=h7;have hz:(o.ln.zipIdx.map ja)[n.toNat]?=some #[aa n,an (iI x)]:=by rw[eZ,List.getElem?_zipIdx,hx];show some (ja (x,0+n.toNat))=_;rw[ja];congr 3;show aa ((0+n.toNat:Nat):Int)=_;congr 1;omega
  refine bz h7 rfl<|nH (hy n.toNat _ hz (ab rG (iI x) 139*(aE 139 2 jO q o.ln.length d o.ln*F)) _ (h7.p2)) ?_;rintro v w9 (⟨rfl,aV⟩|⟨rfl,aV⟩)
  .refine cR<|aw rfl<|aY (by omega) (by omega) ⟨_,?_,by omega,by omega,rfl,?_⟩
   .omega
   .rw[show(n+1).toNat=n.toNat+1 by omega];exact(aV.p2.p2).right
  .exact cR<|aW rfl<|.inr (aV.p2.p2.g1).right
 .have e:n.toNat=(o.ln.zipIdx.map ja).length:=by rw[fk,List.length_zipIdx];omega
  rw[<-e];exact h5.right
def Hl (k1 k2:Nat) (aR:Int) (ps:List (Int×Int)) (Q:HP) (j:Nat):HP:=ex λp=>ex λc=>
 bM ((j:Int)<=max aR 0)*(ab k1 #[aa aR] 3*(ab k2 #[af p j c] 188*(aE 139 2 jO p j c (ps.take j)*Q)))
section
variable {k1 k2:Nat} {aR:Int} {ps:List (Int×Int)} {Q:HP} {j:Nat}
theorem Hl.aK (h:V O (Hl k1 k2 aR ps Q j*F) w):(j:Int)<=max aR 0/\∃p c,V O (ab k1 #[aa aR] 3*(ab k2 #[af p j c] 188*(aE 139 2 jO p j c (ps.take j)*(Q*F)))) w:=by obtain⟨p,h⟩:=V.ex h;obtain⟨c,h⟩:=V.ex h;have h:=h.a.p1.a.p1.a.p1.a.p2.p3.p4;exact⟨h.bM,p,c,h.right⟩
theorem Hl.aI {p:av} {c:Nat} (hj:(j:Int)<=max aR 0) (h:V O (ab k1 #[aa aR] 3*(ab k2 #[af p j c] 188*(aE 139 2 jO p j c (ps.take j)*(Q*F)))) w): V O (Hl k1 k2 aR ps Q j*F) w:=V.bO p (V.bO c ((h.eL hj).g4))
end
end
def L1 (D:Nat):Deferred:={target:=.collected D,args:=#[]}
section
variable {O w:ao} {F:HP}
def mG:List Nat->HP
 |[]=>cW
 |D::Ds=>fw D*mG Ds
theorem SE:∀{Ds:List Nat} {w:ao} {K:ao->Prop},V O (mG Ds*F) w->(∀w',V O F w'->K w')->CA (Ds.map L1) w K
 |[],w,K,h,hk=>hk w h.right
 |D::Ds,w,K,h,hk=>by have h1:V O (fw D*(mG Ds*F)) w:=h.aF (by rw[mG];ac_rfl);exact iL h1 λw' h2=>SE h2 hk
end
theorem SF {α:Type} {s:AS α} (hs:bx s):(fH 0 s.sp).Nodup:=by rw[qw];have h:=JN s.sp 0;rw[List.nodup_iff_pairwise_ne,List.pairwise_map] at h;rw[List.nodup_iff_pairwise_ne,List.pairwise_map];refine h.imp_of_mem λ{p q} hp hq cp e=> ?_;obtain⟨h1,_⟩:=uL p hp;obtain⟨h2,_⟩:=uL q hq;have a1:=(ct.1 h1).1;have a2:=(ct.1 h2).1;have hl:=hs.len;have hm:=hs.ie;exact cp (yR (by omega) (by omega) e).1
def qJ (S:HS) (x:Int):Bool:=match bg S x with|some o=>o.ou==0|none=>false
def fu (S:HS):aJ:=(fH 0 S.sp).filter (qJ S)
def eC (S:HS) (ws:aJ) (x:Int×Int):Option Int:=if x.1=1 then(whole S x.2).map λw=>(ws.idxOf w:Int) else none
def xZ (S:HS) (h:Int):aJ:=match bg S h with|some o=>o.cj|none=>[]
def tO (S:HS) (ws:aJ) (h:Int):aJ:=((h::xZ S h).flatMap (mc S)).filterMap (eC S ws)
def oW (S:HS) (h:Int):Int:=match bg S h with|some o=>o.cn|none=>0
def pN (ws:aJ) (x:Int):Option Int:=if x∈ws then some (ws.idxOf x:Int) else none
theorem ais:pN []=λ_=>none:=by funext x;simp[pN]
theorem ait {ws:aJ} {h:Int} (hn:h∉ws):fg (pN ws) h (some (ws.length:Int))=pN (ws++[h]):=by
 funext x;unfold fg pN;by_cases e:x=h
 .subst e;rw[if_pos rfl,if_pos (by simp),List.idxOf_append,if_neg hn];simp[List.idxOf_cons]
 .rw[if_neg e];by_cases hx:x∈ws
  .rw[if_pos hx,if_pos (by simp[hx]),List.idxOf_append,if_pos hx]
  .rw[if_neg hx,if_neg (by simp[hx,e])]
section
variable {S:HS} {top:Int}
theorem aiu (hs:bx S):(fu S).Nodup:=(SF hs).sublist (List.filter_sublist)
theorem L3 (hs:bx S) {h:Int} (hm:h∈fu S):∃o,bg S h=some o/\o.ou=0:=by
 obtain⟨_,hi⟩:=Ch.1 hm;unfold qJ at hi;split at hi
 .rename_i o hp;exact⟨o,hp,by simpa using hi⟩
 .cases hi
theorem SG (hs:bx S):(fu S).length<=S.bn:=P8 hs (aiu hs) λx hx=>by obtain⟨o,h,_⟩:=L3 hs hx;exact⟨o,h⟩
theorem aiv (hs:dv top S) {h w:Int} (hw:whole S h=some w):w∈fu S:=by obtain⟨o,hp,h0⟩:=hs.whole hw;refine Ch.2 ⟨(CZ hs.ok).1 ⟨o,hp⟩,?_⟩;unfold qJ;rw[hp];simpa using h0
theorem aiw (hs:dv top S) {h:Int} {o:OM} (hp:bg S h=some o):(qJ S h=true↔(if o.ou≠0 then o.ou else h)=h):=by
 unfold qJ;rw[hp];by_cases e:o.ou=0
 .simp[e]
 .simp only[e,ne_eq,not_false_eq_true,if_true,beq_iff_eq,false_iff];intro e2;obtain⟨w,h1,h2,_⟩:=hs.out h o hp e;rw[e2,hp] at h1;cases h1;exact e h2
theorem SH (hs:dv top S) (ws:aJ) {h:Int}:(tO S ws h).length<=8*(S.bn+1):=by
 have h1:∀l:aJ,(l.flatMap (mc S)).length<=8*l.length:=λl=>by
  induction l with
  |nil=>simp
  |cons a l ih=>
   have h2:(mc S a).length<=8:=by
    unfold mc;split
    .rename_i o hp;exact(hs.fN a o hp).len
    .simp
   rw[jE,gp,iB];omega
 have h3:=h1 (h::xZ S h);have h4:(xZ S h).length<=S.bn:=by
  unfold xZ;split
  .rename_i o hp;exact hs.F9 hp
  .simp
 have h5:(tO S ws h).length<=((h::xZ S h).flatMap (mc S)).length:=Ez _ _;rw[iB] at h3;omega
end
structure pP where
 p:av
 c:Nat
 l:aJ
def ow (n:Int):dB:=[aH n]
theorem aix (n:Int):(ow n).length=1:=rfl
theorem aiy (n:Int):∀u∈ow n,u.oneCell'=true:=by simp[ow,Value.oneCell']
def fI (n:Int):dB:=[aa n]
theorem aiz (n:Int):(fI n).length=1:=rfl
theorem aiA (n:Int):∀u∈fI n,u.oneCell'=true:=by simp[fI,Value.oneCell']
def oy (q:pP):dB:=[af q.p q.l.length q.c]
theorem aiB (q:pP):(oy q).length=1:=rfl
theorem aiC (q:pP):∀u∈oy q,u.oneCell'=true:=by simp[oy,Value.oneCell']
theorem aiD:fe au 254 108 (aH 0) 1 4:=⟨by kernel_rfl,by kernel_rfl,rfl,by decide⟩
theorem aiE:fe au 255 167 aP 1 24:=⟨by kernel_rfl,by kernel_rfl,rfl,by decide⟩
theorem SI:oM au 200 26 3 (λx:Int=>ah x) (λ_=>True):=AE (by kernel_rfl) (by kernel_rfl)
theorem aiF (w:ao):(zeroValue 3).run au w=.ok (aa 0) w:=by kernel_rfl
def Hm (q:pP):HP:=aE 3 1 fI q.p q.l.length q.c q.l
def mH:List pP->HP
 |[]=>cW
 |q::qs=>Hm q*mH qs
theorem aiG {qs:List pP} {i:Nat} {q:pP} (h:qs[i]?=some q):mH qs=Hm q*mH (qs.eraseIdx i):=by
 induction qs generalizing i with
 |nil=>simp at h
 |cons z qs ih=>
  cases i with
  |zero=>simp at h;subst h;rfl
  |succ i=>rw[B4,mH,mH,ih (by simpa using h)];ac_rfl
theorem aiH {qs:List pP} {q:pP}:mH (qs++[q])=Hm q*mH qs:=by
 induction qs with
 |nil=>rfl
 |cons y qs ih=>rw[pX,mH,mH,ih];ac_rfl
def sO (pc:av) (cc:Nat) (pe:av) (ce:Nat) (cs:aJ) (bj:List pP):HP:=
 aE 108 1 ow pc cs.length cc cs*(aE 167 1 oy pe bj.length ce bj*mH bj)
def aiI (O:ao) (X:HP) (S:HS) (v:Value) (w':ao):Prop:=
 ∃pc cc pe ce pw cw bj,bj.map (·.l)=(fu S).map (tO S (fu S))/\v=ak #[an #[af pc (fu S).length cc,af pe (fu S).length ce],af pw (fu S).length cw]/\
  V O (sO pc cc pe ce ((fu S).map (oW S)) bj*(aE 26 1 bS pw (fu S).length cw (fu S)*X)) w'
end Go.Proofs.YtjhnnnfnkjighaaGreatDoor.Hp
