/- Whole: a part of the proof. No conditions. -/
import Derived.Test.YtjhnnnfnkjighaaGreatDoorQ14
set_option linter.unusedVariables false
set_option linter.unusedSimpArgs false
set_option maxRecDepth 100000
namespace Go.Proofs.YtjhnnnfnkjighaaGreatDoor.Gi
open Go.Proofs.YtjhnnnfnkjighaaGreatDoor
open Go.Sp Go.RowKit
theorem tD {O w:ao} {F:HP} {a:Nat} {s:AS GE} {x:GE} (h:V O (Ar a s*F) w) (hs:bx s): ae 291 #[al a,an (bP x).toArray] w λv w'=>v=ak #[ah (put s x).2.1,aa (put s x).2.2]/\V O (Ar a (put s x).1*F) w':=by
 apply Xw;refine aG h λk1 Dr h=> ?_;obtain⟨p,c,q,d,h⟩:=Ar.aK (h.p1);generalize nZ:ab k1 (bP x).toArray 241*F=F' at h;have kx:∀{w A B C},V O (A*(B*(C*F'))) w->∀{K},K (bP x).toArray->aA (aD k1) 37 w K:=by intro w A B C h K hk;rw[<-nZ] at h;exact bz h.right.right.right (dw _) hk
 have fin:∀{w a s},V O (Ar a s*F') w->V O (Ar a s*F) w:=by intro w a s h;rw[<-nZ] at h;exact h.p1.right
 have hl:=hs.len;have hm:=hs.ie;have hb:=hs.lE;refine aw rfl<|aq<|aN (h.left.cell (i:=2) rfl) ?_;rcases nQ hs x with⟨fr,i,y,cv,hy,dk,bt⟩|⟨cv,fy,bt⟩|⟨cv,fy,bt⟩
 .have aQ:=(ct.1 hy).1;have hg:=hs.g y (dF hy);have iQ:s.fr.length=fr.length+1:=by simp[cv]
  refine⟨λn w=>n=(i:Int)/\∃q' d',V O (ab a #[aa s.aR,aH s.first,af p s.sp.length c,af q' fr.length d',aa s.bn] 343*(aE 533 39 bl p s.sp.length c s.sp*(aE 3 1 dm q' fr.length d' fr*F'))) w,?_,?_⟩
  .refine aq<|aN (h.left.cell (i:=3) rfl)<|aW (by simp;omega)<|aq<|aN (h.left.cell (i:=3) rfl)<|aY (by omega) (by omega) ?_;have nU:s.fr[((s.fr.length:Int)- 1).toNat]?=some i:=by
    have e:((s.fr.length:Int)- 1).toNat=fr.length:=by omega
    rw[e,cv];simp
   refine dC iN h.right.right.left (by decide) (by omega) nU λg hg=>az (cU iN (j:=0) h.right.right.left hg nU (by decide) rfl)<|aq<|aN (h.left.cell (i:=3) rfl)<|aY (by omega) (by omega) ?_;have h3:=h.p2;refine ur (h3:V O (own 3 1 q s.fr.length d (s.fr.flatMap dm)*_) Dr) (by omega) (by omega) ?_;have e:((s.fr.length:Int)- 1).toNat=fr.length:=by omega
   rw[e];have h4:=yD iN h3 (show fr.length<=s.fr.length by omega);rw[cv,qS rfl] at h4;refine aq<|bD (i:=3) h4.p1 (by simp) λw5 h5=>⟨rfl,q,d,h5.aF ?_⟩;show ab a #[aa s.aR,aH s.first,af p s.sp.length c,af q fr.length d,aa s.bn] 343*_=_;ac_rfl
  .rintro u n w5 ⟨rfl,q',d',h5⟩;have dQ:s.sp[(i:Int).toNat]?=some y:=by rw[cu];exact hy
   refine aq<|aN (h5.left.cell (i:=2) rfl)<|dC bE h5.right.left (by decide) (by omega) dQ λg hg=>kx h5 ?_;rw[cu];refine rh bE (o:=0) (n:=37) (y':=⟨x,y.g,y.st⟩) h5.p1 hg hy (by decide) (dw _) (fJ _) (sK _ _ _ _) λw6 h6=> ?_;refine g8 bE (y:=⟨x,y.g,y.st⟩) (y':=⟨x,y.g,1⟩) h6 hg (by simp[aQ]) (by decide) (tM _ _ _ _ rfl) λw7 h7=> ?_;rw[jF] at h7;have h7:=h7.p1;refine aq<|az (h7.left.cell (i:=4) rfl)<|aY (by omega) (by omega)<|aq<|bD (i:=4) h7 (by simp) λw8 h8=> ?_;refine az (cU bE (j:=37) (y:=⟨x,y.g,1⟩) h8.right.left hg (by simp[aQ]) (by decide) (mW _))<|fY (kV (i:=i) (g:=y.g) (by omega) (by omega) (by omega))<|bI ?_;rw[bt];exact⟨rfl,fin (Ar.aI (l:=s.sp.length) (m:=fr.length) (p:=p) (q:=q') (c:=c) (d:=d') h8)⟩
 .rw[bt];refine⟨λ_ _=>False,?_,λ_ _ _ h=>h.elim⟩;exact aq<|aN (h.left.cell (i:=3) rfl)<|aw (by simp[cv])<|aq<|az (h.left.cell (i:=0) rfl)<|aW (by simp[fy]) ⟨rfl,fin (Ar.aI h)⟩
 .have e0:s.fr.length=0:=by rw[cv];rfl
  refine⟨λn w=>n=(s.sp.length:Int)/\∃p' c',V O (ab a #[aa s.aR,aH s.first,af p' (s.sp.length+1) c',af q 0 d,aa s.bn] 343*(aE 533 39 bl p' (s.sp.length+1) c' (s.sp++[⟨cx,s.first,0⟩])*(aE 3 1 dm q 0 d []*F'))) w,?_,?_⟩
  .rw[e0,cv] at h;have hd:=h.drew;refine aq<|aN (h.left.cell (i:=3) rfl)<|aw (by simp)<|aq<|az (h.left.cell (i:=0) rfl)<|aw (by simp;omega)<|aq<|aN (hd.left.cell (i:=2) rfl)<|aq<|az (hd.left.cell (i:=1) rfl) ⟨rfl,aG hd λk w3 h3=> ?_⟩;refine ju nT bE (by decide) kT (x:=⟨cx,s.first,0⟩) (h3.aF (B:=_*(aE 533 39 bl p s.sp.length c s.sp*(ab a #[aa s.aR,aH s.first,af p s.sp.length c,af q 0 d,aa s.bn] 343*(aE 3 1 dm q 0 d []*F')))) (by ac_rfl)) rfl (by simp only[maxLen];omega) (by omega) λp' c' w4 h4=> ?_;refine aq<|bD (i:=2) h4.p1 (by simp) λw5 h5=>⟨rfl,p',c',?_⟩;exact h5
  .rintro u n w5 ⟨rfl,p',c',h5⟩;have hy:(s.sp++[⟨cx,s.first,0⟩])[s.sp.length]?=some (⟨cx,s.first,0⟩:bK GE):=by simp
   have dQ:(s.sp++[⟨cx,s.first,0⟩])[(s.sp.length:Int).toNat]?=some (⟨cx,s.first,0⟩:bK GE):=by simp
   have pq:=hs.qu;have oQ:=hs.qv;refine aq<|aN (h5.left.cell (i:=2) rfl)<|dC bE h5.right.left (by decide) (by omega) dQ λg hg=>kx h5 ?_;rw[cu];refine rh bE (o:=0) (n:=37) (y':=⟨x,s.first,0⟩) h5.p1 hg hy (by decide) (dw _) (fJ _) (sK _ _ _ _) λw6 h6=> ?_;refine g8 bE (y:=⟨x,s.first,0⟩) (y':=⟨x,s.first,1⟩) h6 hg (by simp) (by decide) (tM _ _ _ _ rfl) λw7 h7=> ?_;rw[jF] at h7;have h7:=h7.p1;refine aq<|az (h7.left.cell (i:=4) rfl)<|aY (by omega) (by omega)<|aq<|bD (i:=4) h7 (by simp) λw8 h8=> ?_;refine az (cU bE (j:=37) (y:=⟨x,s.first,1⟩) h8.right.left hg (by simp) (by decide) (mW _))<|fY (kV (i:=s.sp.length) (g:=s.first) (by omega) (by omega) (by omega))<|bI ?_;rw[bt];refine⟨rfl,fin (Ar.aI (l:=s.sp.length+1) (m:=0) (p:=p') (q:=q) (c:=c') (d:=d) ?_)⟩;have e:(s.sp++[(⟨cx,s.first,0⟩:bK GE)]).set s.sp.length (⟨x,s.first,1⟩:bK GE)=s.sp++[⟨x,s.first,1⟩]:=by simp
   rw[<-e];exact h8
theorem tE {O w:ao} {F:HP} {a:Nat} {s:AS GE} {h:Int} (hh:V O (Ar a s*F) w) (hs:bx s) (h0:0<=h) (h1:h<=18446744073709551615): ae 190 #[al a,ah h] w λv w'=>v=ak #[an (bP (cI cx s h).2.1).toArray,aa (cI cx s h).2.2]/\V O (Ar a (cI cx s h).1*F) w':=by
 apply Xk;refine aG hh λk1 w1 h2=>aG h2 λk2 w2 h3=> ?_;obtain⟨p,c,q,d,h3⟩:=Ar.aK (h3.aF (B:=Ar a s*(ab k2 (bP cx).toArray 241*(ab k1 (bP cx).toArray 241*F))) (by show ab k2 (bP cx).toArray 241*(ab k1 (bP cx).toArray 241*_)=_;ac_rfl));refine ay (nk h3 h0 h1) ?_;cases hf:find s h with
 |none=>rintro _ w3 ⟨rfl,rfl⟩;rw[yQ hf];have h4:=h3.p3.p4;exact⟨_,_,rfl,aW rfl<|bz h4.right rfl<|bL h4 rfl rfl (fJ cx) λw4 h5=>bz h5 rfl ⟨rfl,Ar.aI h5.right.right⟩⟩
 |some i=>
  rintro _ w3 ⟨rfl,g,hg,rfl⟩;obtain⟨y,hy,dk,_⟩:=(l6 hs).1 hf;rw[uH hf hy];have aQ:=(ct.1 hy).1;have rz:=hs.g y (dF hy);have hb:=hs.lE;have hl:=hs.len;have hm:=hs.ie;have hp:=xu (P:=λz:bK GE=>z.st==1) hy (by simp[dk]);have hk:=hs.bn;obtain⟨dg,nV,cp⟩:∃dg:Int,dg=(if y.g<4294967295 then 0 else 2)/\dg≠1:=⟨_,rfl,by split<;>decide⟩;refine⟨_,_,rfl,aw rfl<|aq<|wZ bE (o:=0) (n:=37) h3.right.left hg hy (by decide) (uU y)<|aG h3 λlG w5 h5=>bL h5 rfl (dw _) (fJ _) λw6 h6=> ?_⟩;have h6:=h6.p3.p2.p3;generalize nZ:ab lG (bP y.x).toArray 241*(ab k2 (bP cx).toArray 241*(ab k1 (bP cx).toArray 241*F))=F' at h6;have Dt:∀{w A B C},V O (A*(B*(C*F'))) w->∀{K},K (bP cx).toArray->aA (aD k2) 37 w K:=by intro w A B C h K hk;rw[<-nZ] at h;exact bz h.right.right.right.right (dw _) hk
  have fin:∀{w s'} {n:Int},n=0->V O (Ar a s'*F') w->aA (aD lG) 37 w λDu=>aS au (aD k1) 37 Du w λdH=>aA (aD k1) 37 dH λDv=>(λv w'=>v=ak #[an (bP y.x).toArray,aa n]/\V O (Ar a s'*F) w') (ak #[an Dv,aa 0]) dH:=by rintro w s' n rfl h;rw[<-nZ] at h;have h:=h.p2.p2.p3;exact bz h.right (dw _)<|bL h rfl (dw _) (fJ _) λw4 h5=>bz h5 (dw _) ⟨rfl,h5.right.right.right⟩
  refine Dt h6<|aq<|rh bE (o:=0) (n:=37) (y':=⟨cx,y.g,y.st⟩) h6 hg hy (by decide) (dw _) (fJ _) (sK _ _ _ _) λw7 h7=>aq ?_;refine g8 bE (y:=⟨cx,y.g,y.st⟩) (y':=⟨cx,y.g,dg⟩) h7 hg (by simp[aQ]) (by decide) (tM _ _ _ _ (by simp[cp])) λw8 h8=> ?_;rw[jF] at h8;have h8:=h8.p1;refine aq<|az (h8.left.cell (i:=4) rfl)<|aY (by omega) (by omega)<|aq<|bD (i:=4) h8 (by simp) λw4 h4=> ?_;have h4:V O (ab a #[aa s.aR,aH s.first,af p s.sp.length c,af q s.fr.length d,aa ((s.bn- 1:Nat):Int)] 343*(aE 533 39 bl p s.sp.length c (s.sp.set i ⟨cx,y.g,dg⟩)*(aE 3 1 dm q s.fr.length d s.fr*F'))) w4:=by
   have e:((s.bn- 1:Nat):Int)=(s.bn:Int)- 1:=by omega
   rw[e];exact h4
  have kW:(s.sp.set i ⟨cx,y.g,dg⟩)[i]?=some (⟨cx,y.g,dg⟩:bK GE):=by simp[aQ]
  refine aq<|az (cU bE (j:=37) h4.right.left hg kW (by decide) (mW _))<|bU (λaQ=> ?_) (λbW=> ?_)
  .have e0:dg=0:=by rw[nV,if_pos aQ]
   subst e0;refine aq<|az (cU bE (j:=37) h4.right.left hg kW (by decide) (mW _))<|gX (by dsimp only;omega) (by dsimp only at aQ ⊢;omega)<|aq<|g8 bE (y':=⟨cx,y.g+1,0⟩) h4.p1 hg kW (by decide) (Dq _ _ _ _) λw5 h5=> ?_;rw[jF] at h5;have h5:=h5.p1;refine aq<|aN (h5.left.cell (i:=3) rfl)<|aG h5 λk w6 h6=> ?_;refine ju nR iN (by decide) Ap (x:=i) (h6.aF (B:=_*(aE 3 1 dm q s.fr.length d s.fr*(ab a #[aa s.aR,aH s.first,af p s.sp.length c,af q s.fr.length d,aa ((s.bn- 1:Nat):Int)] 343*(aE 533 39 bl p s.sp.length c (s.sp.set i ⟨cx,y.g+1,0⟩)*F')))) (by ac_rfl)) rfl (by simp only[maxLen];omega) (by omega) λp' c' w7 h7=> ?_;refine aq<|bD (i:=3) h7.p1 (by simp) λw8 h8=>fin rfl ?_;rcases l8 (z:=cx) hy with⟨_,hd⟩|⟨hn,_⟩
   .rw[hd];exact Ar.aI (l:=s.sp.length) (m:=s.fr.length+1) (p:=p) (q:=p') (c:=c) (d:=c') (h8.aF (by show ab a #[aa s.aR,aH s.first,af p s.sp.length c,af p' (s.fr.length+1) c',aa ((s.bn- 1:Nat):Int)] 343*_=_;ac_rfl))
   .exact absurd aQ hn
  .have e0:dg=2:=by rw[nV,if_neg bW]
   subst e0;refine fin rfl ?_;rcases l8 (z:=cx) hy with⟨hn,_⟩|⟨_,hd⟩
   .exact absurd hn bW
   .rw[hd];exact Ar.aI h4
def jf (p:Int×GE):aM:=#[ah p.1,an (bP p.2).toArray]
def kc (p:Nat×bK GE):Int×GE:=(hd p.1 p.2.g,p.2.x)
theorem xy {O w:ao} {F:HP} {x:av} (h:V O F w): ae 189 #[ag x] w λv w'=>∃k t,v=.func (.func 275) #[] #[al k]/\V O (ab k #[ag x] t*F) w':=by apply Xj;exact aG h λk w1 h1=>⟨k,_,rfl,h1⟩
theorem KO {O:ao} {k a t:Nat} {s:AS GE} {bG:Nat->HP} (hs:bx s) (hP:∀w,V O (bG 0) w->V O (ab k #[al a] t) w) (hA:∀w,V O (bG 0) w->V O (Ar a s) w): iD au O 275 #[al k] bG ((cq 0 s.sp).map λp=>jf (kc p)):=by
 intro f b c B Bx cA hB hy F w h;show ae _ #[.func f b c,al k] w _;apply Xr;have hl:=hs.len;have hm:=hs.ie;refine bh ((hP _ (hB 0 _ h.left)).cell (i:=0) rfl)<|aw rfl<|aG h λk2 w1 h1=> ?_;have gO:=hP _ (hB 0 _ h1.right.left);obtain⟨p,c5,q,d,h2⟩:=Ar.aK ((hA _ (hB 0 _ h1.right.left)).cQ.e1);refine bh (gO.cell (i:=0) rfl)<|aq<|aN (h2.left.cell (i:=2) rfl) ?_;have hT:V O (own 533 39 p s.sp.length c5 (s.sp.flatMap bl)) w1:=h2.right.left;refine lW nT (V.lx (t:=533) (sz:=39) (n:=0) h1 rfl (by decide)) hT.rd (yG kT) (by simp only[maxLen];omega) (by omega) λp6 c6 w2 h3=> ?_;rw[dc] at h3 ⊢;have h3:V O (aE 533 39 bl p6 s.sp.length c6 s.sp*(B 0*F)) w2:=h3;refine⟨λn w m=>0<=n/\n<=s.sp.length/\m=s.sp.length- n.toNat/\V O (aE 533 39 bl p6 s.sp.length c6 s.sp*(B (cq 0 (s.sp.take n.toNat)).length*F)) w,⟨_,by omega,by omega,rfl,h3⟩,?_⟩;rintro u n w3 m ⟨h0,h1,rfl,h4⟩;refine bU (λaQ=> ?_) (λbW=>.inl ?_)
 .obtain⟨i,rfl⟩:∃i:Nat,n=i:=⟨n.toNat,by omega⟩;rw[cu] at h4;have hi:i<s.sp.length:=by omega
  obtain⟨y,eT⟩:∃y,s.sp[i]?=some y:=⟨s.sp[i],by simp[hi]⟩;have dQ:s.sp[(i:Int).toNat]?=some y:=by rw[cu];exact eT
  have rz:=hs.g y (dF eT);have e1:((i:Int)+1).toNat=i+1:=by omega
  have e2:s.sp.take (i+1)=s.sp.take i++[y]:=by rw[fV,eT];rfl
  have e3:(s.sp.take i).length=i:=by rw[fB];omega
  refine dC bE h4.left (by decide) (by omega) dQ λg hg=>vK bE h4.left hg dQ<|aG h4 λk3 w4 h5=>bL h5 rfl (by simp[bE]) (λu hu=>kT y u hu) λw5 h6=> ?_;have h6:=h6.drew;have KP:(bl y).toArray[38]?=some (aC (y.st==1)):=by rw[kI];exact zd y
  have KQ:(bl y).toArray[37]?=some (aH y.g):=by rw[kI];exact mW y
  have ex:(bl y).toArray.extract 0 (0+37)=(bP y.x).toArray:=by apply cT;rw[pV,oZ];exact uU y
  refine gQ (aB h6 KP)<|cy (λht=> ?_) (λhf=> ?_)
  .have ht:y.st=1:=by simpa using ht
   refine az (aB h6 KQ)<|ff (o:=0) (n:=37) h6 (by simp[bE]) ?_;rw[ex];refine fY (kV (i:=i) (g:=y.g) (by omega) (by omega) (by omega))<|bI<|Fx (o:=0) (vs:=(bP y.x).toArray) h6 (λj hj=> ?_) ?_
   .have hj:j<37:=by rw[dw] at hj;exact hj
    have Ju:=dJ y.x;rw[kI,kI,dc,bl,r9 (by omega)]
   have hx:((cq 0 s.sp).map λp=>jf (kc p))[(cq 0 (s.sp.take i)).length]?=some (jf (hd i y.g,y.x)):=by
    have e4:s.sp=s.sp.take i++(y::s.sp.drop (i+1)):=by
     conv=>lhs;rw[<-mK i s.sp,ll hi]
     rw[gm hi] at eT;cases eT;rfl
    have e5:cq 0 s.sp=cq 0 (s.sp.take i)++(i,y)::cq (i+1) (s.sp.drop (i+1)):=by conv=>lhs;rw[e4,AR,e3,dc,cq,if_pos ht]
    rw[eZ,e5];simp[kc]
   refine nH (hy _ _ hx (ab k3 (bl y).toArray 533*(aE 533 39 bl p6 s.sp.length c6 s.sp*F)) _ (h6.p2)) ?_;rintro v w7 (⟨rfl,h7⟩|⟨rfl,h7⟩)
   .refine cR<|aw rfl<|aY (by omega) (by omega) ⟨_,?_,by omega,by omega,rfl,?_⟩
    .omega
    .rw[e1,e2,sB,if_pos ht,gp];exact(h7.p2.p2).right
   .exact cR<|aW rfl<|.inr ((h7.p2.p2.g1).right)
  .have hf:y.st≠1:=by simpa using hf
   refine aY (by omega) (by omega) ⟨_,by omega,by omega,by omega,rfl,?_⟩;rw[e1,e2,sB,if_neg hf,jS];exact h6.right
 .have e:s.sp.take n.toNat=s.sp:=by rw[eW];omega
  rw[e] at h4;rw[fk];exact h4.right
def Gt (b a:Nat) (s:AS GE):HP:=ab b #[al a] 243*Ar a s
theorem aeK:fe au 148 164 (an (cS jW).toArray) 36 56:=⟨by kernel_rfl,by kernel_rfl,by simp[Value.cells,nO],by decide⟩
theorem QV (x:OR):∀u∈(bF x.1).toList,u.oneCell'=true:=mR x
theorem ze (x:OR):(bF x.1).size=36:=dq x.2
theorem QW (e:GE):(bP e).toArray.extract 1 (1+36)=bF e.2.1:=by apply cT;rw[pV,oZ];show((bP e).drop 1).take 36=cS e.2;show(cS e.2).take 36=cS e.2;rw[eW (by rw[nO];exact eJ _)]
theorem aeL {O w:ao} {F:HP} {aR:Int} (h:V O F w) (h0:1<=aR) (h1:aR<=65536): ae 46 #[aa aR] w λv w'=>∃b a,v=ak #[al b,aa 0]/\V O (Gt b a ⟨aR,1,[],[],0⟩*F) w':=by apply X6;refine ay (tA h h0 h1 (by decide)) ?_;rintro _ w1 ⟨a,rfl,h2⟩;exact⟨_,_,rfl,aw rfl<|aG h2 λb w2 h3=>⟨b,a,rfl,h3.aF (by show ab b _ _*_=ab b _ _*_*_;ac_rfl)⟩⟩
def qE (s:AS GE) (o:Int) (x:OR):AS GE×Int×Int:=if x.1.fl=0\/i9 x.1=false then(s,0,1) else put s (o,x)
theorem bx.qE {s:AS GE} (hs:bx s) (o:Int) (x:OR):bx (qE s o x).1:=by
 unfold Proofs.YtjhnnnfnkjighaaGreatDoor.Gi.qE;split
 .exact hs
 .exact hs.put _
theorem aeM {O w:ao} {F:HP} {b a:Nat} {s:AS GE} {o:Int} {x:OR} (h:V O (Gt b a s*F) w) (hs:bx s): ae 215 #[al b,aa o,an (bF x.1)] w λv w'=>v=ak #[ah (qE s o x).2.1,aa (qE s o x).2.2]/\V O (Gt b a (qE s o x).1*F) w':=by
 apply Yo;refine aG h λk w1 h1=>aw rfl<|az (aB h1 (i:=0) rfl)<|cy (λhz=> ?_) (λhz=> ?_)
 .have hz:x.1.fl=0:=by simpa using hz
  have eg:qE s o x=(s,0,1):=by simp[qE,hz]
  rw[eg];exact⟨rfl,h1.right⟩
 .have hz:x.1.fl≠0:=by simpa using hz
  refine bz h1 (ze x)<|ay (At h1 x.2) ?_;rintro _ w2 ⟨rfl,h2⟩;refine bI<|cy (λhb=> ?_) (λhb=> ?_)
  .have hb:i9 x.1=false:=by
    cases hr:i9 x.1
    .rfl
    .rw[hr] at hb;simp at hb
   have eg:qE s o x=(s,0,1):=by simp[qE,hb]
   rw[eg];exact⟨rfl,h2.right⟩
  .have hb:i9 x.1=true:=by
    cases hr:i9 x.1
    .rw[hr] at hb;simp at hb
    .rfl
   have h3:=h2.drew;have e:((#[]++#[aa o])++bF x.1:aM)=(bP (o,x)).toArray:=by apply cT;simp[bP,cS]
   have h4:=h3.aF (B:=Ar a s*(ab b #[al a] 243*(ab k (bF x.1) 164*F))) (by unfold Gt;ac_rfl);refine aq<|bh (h4.right.left.cell (i:=0) rfl)<|bz h3 (ze x) ⟨ze x,?_⟩;rw[e];refine ay (tD h4 hs) ?_;rintro _ w4 ⟨rfl,h5⟩;have eg:qE s o x=put s (o,x):=by simp[qE,hz,hb]
   rw[eg];exact⟨_,_,rfl,rfl,(h5.aF (B:=ab k (bF x.1) 164*(Gt b a (put s (o,x)).1*F)) (by unfold Gt;ac_rfl)).right⟩
theorem aeN {O w:ao} {F:HP} {b a:Nat} {s:AS GE} {h:Int} (hh:V O (Gt b a s*F) w) (hs:bx s) (h0:0<=h) (h1:h<=18446744073709551615): ae 116 #[al b,ah h] w λv w'=>V O (Gt b a s*F) w'/\ match(find s h).bind (s.sp[·]?) with
   |none=>v=ak #[an (bF jW.1),aa 2]
   |some y=>v=ak #[an (bF y.x.2.1),aa 0]:=by
 apply Ya;refine aG hh λk w1 h2=>aw rfl ?_;have h3:=h2.aF (B:=Ar a s*(ab b #[al a] 243*(ab k (bF jW.1) 164*F))) (by show ab k (bF jW.1) 164*(Gt b a s*F)=_;unfold Gt;ac_rfl);refine aq<|bh (h3.right.left.cell (i:=0) rfl)<|ay (tC h3 hs h0 h1) ?_;have fin:∀{w e} {n:Int},V O (Ar a s*(ab b #[al a] 243*(ab k (bF jW.1) 164*F))) w->∀{K:nE},(∀w',V O (Gt b a s*F) w'->K (ak #[an (bF e.2.1),aa n]) w')->new (bP cx).toArray 241 w λk8 w4=>aS au (aD k8) 37 (bP e).toArray w4 λw5=>aA ((aD k8).add 1) 36 w5 λg9=>aS au (aD k) 36 g9 w5 λw6=>aA (aD k) 36 w6 λKR=>K (ak #[an KR,aa n]) w6:=by intro w e n h4 K hk;refine aG h4 λk8 w4 h5=>bL h5 rfl (dw e) (fJ e) λw5 h6=>ff (o:=1) (n:=36) h6 (by simp[dJ]) ?_;rw[QW];have h7:=h6.aF (B:=ab k (bF jW.1) 164*(ab k8 (bP e).toArray 241*(Gt b a s*F))) (by unfold Gt;ac_rfl);exact bL h7 rfl (ze e.2) (QV e.2) λw6 h8=>bz h8 (ze e.2) (hk _ h8.right.right)
 rcases FY hs h with⟨hf,hb⟩|⟨i,y,hf,hy,h1,hb⟩
 .rw[hb];rintro _ w2 ⟨h4,rfl⟩;exact⟨_,_,rfl,fin (e:=cx) h4 (K:=λv w'=>V O (Gt b a s*F) w'/\v=ak #[an (bF jW.1),aa 2]) λw' h=>⟨h,rfl⟩⟩
 .rw[hb];rintro _ w2 ⟨h4,rfl⟩;exact⟨_,_,rfl,fin (e:=y.x) h4 (K:=λv w'=>V O (Gt b a s*F) w'/\v=ak #[an (bF y.x.2.1),aa 0]) λw' h=>⟨h,rfl⟩⟩
theorem aeO {O w:ao} {F:HP} {b a:Nat} {s:AS GE} {h:Int} (hh:V O (Gt b a s*F) w) (hs:bx s) (h0:0<=h) (h1:h<=18446744073709551615): ae 118 #[al b,ah h] w λv w'=>v=ak #[an (bF (cI cx s h).2.1.2.1),aa (cI cx s h).2.2]/\V O (Gt b a (cI cx s h).1*F) w':=by apply Yb;refine aG hh λk w1 h2=>aw rfl ?_;have h3:=h2.aF (B:=Ar a s*(ab b #[al a] 243*(ab k (bF jW.1) 164*F))) (by show ab k (bF jW.1) 164*(Gt b a s*F)=_;unfold Gt;ac_rfl);refine aq<|bh (h3.right.left.cell (i:=0) rfl)<|ay (tE h3 hs h0 h1) ?_;rintro _ w2 ⟨rfl,h4⟩;generalize cI cx s h=r at h4 ⊢;refine⟨_,_,rfl,aG h4 λk8 w4 h5=>bL h5 rfl (dw r.2.1) (fJ r.2.1) λw5 h6=>ff (o:=1) (n:=36) h6 (by simp[dJ]) ?_⟩;rw[QW];have h7:=h6.aF (B:=ab k (bF jW.1) 164*(ab k8 (bP r.2.1).toArray 241*(Gt b a r.1*F))) (by unfold Gt;ac_rfl);exact bL h7 rfl (ze r.2.1.2) (QV r.2.1.2) λw6 h8=>bz h8 (ze r.2.1.2) ⟨rfl,h8.right.right⟩
def Dw (o:Int) (e:GE):Bool:=decide (e.1=o)
def KS (s:AS GE) (o:Int):AS GE×List GE:=rB cx (Dw o) s (cq 0 s.sp)
theorem QX {s:AS GE} (hs:bx s) (o:Int):bx (KS s o).1/\(KS s o).1.aR=s.aR/\(∀h e,jw (KS s o).1 h e↔jw s h e/\e.1≠o):=by
 obtain⟨h1,h2,_,h4⟩:=adQ (z:=cx) (q:=Dw o) hs [] _ (cq 0 s.sp) rfl (by simpa using JN s.sp 0) (by simpa using uL);refine⟨h1,h2,λh e=> ?_⟩;show jw (rB cx (Dw o) s (cq 0 s.sp)).1 h e↔_;rw[h4];constructor
 .rintro⟨ha,hb⟩;refine⟨ha,λho=> ?_⟩;obtain⟨p,hp,rfl,rfl⟩:=F0.1 ha;exact hb p hp (by simp[Dw,ho]) rfl
 .rintro⟨ha,hb⟩;refine⟨ha,λp hp hq e=> ?_⟩;subst e;have:e=p.2.x:=jw.aZ hs ha (F0.2 ⟨p,hp,rfl,rfl⟩);rw[this] at hb;exact hb (by simpa[Dw] using hq)
end Go.Proofs.YtjhnnnfnkjighaaGreatDoor.Gi
namespace Go.Proofs.YtjhnnnfnkjighaaGreatDoor
open Go.Sp Go.RowKit
theorem Bt {f:FuncId} {fn:Func} {c:Code} {first captured args:aM} {w:ao} {R:nE} (hf:Tryz.prog.funcs[f]?=some fn) (hb:fn.body=some c) (h:ae f (first++args++captured) w R):gi au (.func f) first captured args w R:=by unfold gi;simp only[hf,hb];exact h
structure Dx (x:np):Prop where
 ox:0<=x.ox/\x.ox<=18446744073709551615
 od:0<=x.od/\x.od<=18446744073709551615
 cn:0<=x.cn/\x.cn<=1000000
 dz:x.dz.length<=1000
def fK (k:Nat) (x:np) (L:av×Nat):HP:=bM (Dx x)*(ab k #[ah x.ox,ah x.od,aH x.cn,aC false,af L.1 x.dz.length L.2] 391*aE 164 36 cS L.1 x.dz.length L.2 x.dz)
def PO (k a:Nat) (P:iS) (S:AS np):HP:=ab k #[al a] 224*PA (Px.Ar a) sG fK P S
def eE (k:Nat) (S:AS np):HP:=ex λa=>ex λP=>PO k a P S
section
variable {O w:ao} {F:HP} {k a kx:Nat} {P:iS} {S:AS np} {x:np} {L:av×Nat}
theorem eE.aK (h:V O (eE k S*F) w):∃a P,V O (PO k a P S*F) w:=by obtain⟨a,h⟩:=V.ex h;obtain⟨P,h⟩:=V.ex h;exact⟨a,P,h⟩
theorem eE.aI (h:V O (PO k a P S*F) w):V O (eE k S*F) w:=V.bO a (V.bO P h)
theorem fK.aK (h:V O (fK kx x L*F) w):Dx x/\V O (ab kx #[ah x.ox,ah x.od,aH x.cn,aC false,af L.1 x.dz.length L.2] 391*(aE 164 36 cS L.1 x.dz.length L.2 x.dz*F)) w:=by have h:=h.aF (B:=bM (Dx x)*(ab kx #[ah x.ox,ah x.od,aH x.cn,aC false,af L.1 x.dz.length L.2] 391*(aE 164 36 cS L.1 x.dz.length L.2 x.dz*F))) (by unfold fK;ac_rfl);exact⟨h.bM,h.right⟩
theorem fK.aI {p:av} {l c:Nat} (hx:Dx x) (hl:l=x.dz.length) (h:V O (ab kx #[ah x.ox,ah x.od,aH x.cn,aC false,af p l c] 391*(aE 164 36 cS p l c x.dz*F)) w):V O (fK kx x (p,c)*F) w:=by subst hl;exact(h.eL hx).aF (by unfold fK;ac_rfl)
theorem PO.b (h:V O (PO k a P S*F) w):V O (ab k #[al a] 224*(PA (Px.Ar a) sG fK P S*F)) w:=h.aF (by unfold PO;ac_rfl)
theorem PO.p (h:V O (PO k a P S*F) w):V O (PA (Px.Ar a) sG fK P S*(ab k #[al a] 224*F)) w:=h.aF (by unfold PO;ac_rfl)
theorem PO.jK (h:V O (PA (Px.Ar a) sG fK P S*(ab k #[al a] 224*F)) w):V O (PO k a P S*F) w:=h.aF (by unfold PO;ac_rfl)
theorem PO.ok (h:V O (PO k a P S*F) w):bx S:=PA.ok (PO.p h)
theorem PO.at (h:V O (PO k a P S*F) w) {hn:Int} (hp:bg S hn=some x):∃kx L R,P hn=some kx/\Dx x/\V O (fK kx x L*(R*F)) w/\ ∀(x':np) (L':av×Nat) (F':HP) (w':ao),V O (fK kx x' L'*(R*F')) w'->V O (PO k a P (cF S hn x')*F') w':=by obtain⟨kx,L,R,h1,h2,h3⟩:=PA.at (PO.p h) hp;refine⟨kx,L,R*ab k #[al a] 224,h1,(fK.aK h2).1,h2.aF (by ac_rfl),λx' L' F' w' h'=>PO.jK (h3 x' L' _ w' (h'.p1.a.p2))⟩
theorem aeP {aR:Int} (h:V O F w) (h0:1<=aR) (h1:aR<=65536):ae 42 #[aa aR] w λv w'=>∃k,v=ak #[al k,aa 0]/\V O (eE k ⟨aR,1,[],[],0⟩*F) w':=by apply Xy;refine ay (uN.new (aR:=aR) (first:=1) h h0 h1 (by decide)) ?_;rintro _ w1 ⟨a,rfl,h2⟩;refine⟨_,_,rfl,aw rfl<|aG h2 λk4 w2 h3=>⟨k4,rfl,eE.aI (a:=a) (P:=λ_=>none) (PO.jK ?_)⟩⟩;refine PA.aI (s:=⟨aR,1,[],[],0⟩) ⟨rfl,λy hy=>by simp at hy,λh=>by simp[bg,find]⟩ ⟨h0,h1,show(1:Int)<=1 by decide,show(1:Int)<=4294967295 by decide,by simp;omega,by simp,by simp,by simp,by simp,by simp⟩ ?_;exact(h3.cQ).aF (by show cW*_=Px.Ar a ⟨aR,1,[],[],0⟩*(cW*(ab k4 _ 224*F));ac_rfl)
theorem Bu {hn:Int} (h:V O (PO k a P S*F) w) (h0:0<=hn) (h1:hn<=18446744073709551615): ae 170 #[al k,ah hn] w λv w'=>w'=w/\ ((bg S hn=none/\v=ak #[ag none,aa 2])\/∃kx o,bg S hn=some o/\P hn=some kx/\v=ak #[al kx,aa 0]):=by
 apply XH;refine aw rfl<|aq<|bh (aB (PO.b h) (i:=0) rfl)<|ay (PA.Qf uN (PO.p h) h0 h1) ?_;rintro _ w3 ⟨rfl,⟨hp,rfl⟩|⟨kx,x,hp,hk,rfl⟩⟩
 .exact⟨_,_,rfl,rfl,.inl ⟨hp,rfl⟩⟩
 .exact⟨_,_,rfl,rfl,.inr ⟨kx,x,hp,hk,rfl⟩⟩
theorem aeQ {hn:Int} (hp:bg S hn=some x) (h:V O (eE k S*F) w): ae 271 #[al k,ah hn] w λv w'=>v=ak #[ah x.ox,ah x.od,aa 0]/\V O (eE k S*F) w':=by
 obtain⟨a,P,h⟩:=eE.aK h;have hr:=ni (PO.ok h) hp;apply XN;refine ay (Bu h (by omega) hr.2) ?_;rintro _ w3 ⟨rfl,⟨cG,_⟩|⟨kx,x',cG,hk,rfl⟩⟩
 .rw[hp] at cG;cases cG
 .rw[hp] at cG;cases cG;have h:=h.drew;obtain⟨rM,L,R,cV,hx,h4,cl⟩:=PO.at h hp;rw[hk] at cV;cases cV;obtain⟨_,h5⟩:=fK.aK h4;exact⟨_,_,rfl,aw rfl<|aq<|az (n:=x.ox) (aB h5 (i:=0) rfl)<|aq<|az (n:=x.od) (aB h5 (i:=1) rfl) ⟨rfl,eE.aI h⟩⟩
def xI (dz:List OR) (bm:aJ):Int:=match dz.findIdx? (λy=>decide (jZ y=bm)) with|some i=>i|none=> -1
theorem Dy (y:OR):(bF y.1).extract 20 (20+16)=gA (jZ y):=by
 have hl:=y.2.len;apply cT;rw[pV,oZ];have e:(bF y.1).toList=kO y.1++(bc (ik y)++bc (jZ y)):=by rw[<-pt,ik,jZ,mK];simp[bF]
 have e1:(bc (ik y)).length=16:=by rw[dh,ik,fB];omega
 rw[e,show(20:Nat)=(kO y.1).length+16 from rfl,<-Cl,zS,Ci e1,eW (by simp[dh,jZ,kO];omega)];simp[gA]
theorem v3 (y:OR):(bF y.1).extract 4 (4+16)=gA (ik y):=by
 have hl:=y.2.len;apply cT;rw[pV,oZ];have e:(bF y.1).toList=kO y.1++(bc (ik y)++bc (jZ y)):=by rw[<-pt,ik,jZ,mK];simp[bF]
 have e1:(bc (ik y)).length=16:=by rw[dh,ik,fB];omega
 rw[e,show(4:Nat)=(kO y.1).length from rfl,zS,qS (by rw[e1];simp[kO])];simp[gA]
theorem GD (y:OR):mV (jZ y):=by have:=y.2.len;exact⟨by rw[jZ,sc];omega,λb hb=>y.2.rk b (sV hb)⟩
theorem uV (y:OR):mV (ik y):=by have:=y.2.len;exact⟨by rw[ik,fB];omega,λb hb=>y.2.rk b (pU hb)⟩
theorem aeR {k1:Nat} {bm:aJ} {t:TypeId} {y:OR} (hi:mV bm) (h:V O (ab k1 (gA bm) t*F) w): ae 413 #[an (bF y.1),al k1] w λv w'=>v=aC (decide (jZ y=bm))/\V O (ab k1 (gA bm) t*F) w':=by apply X1;refine aG h λk2 w1 h1=>ff (n:=16) (o:=20) h1 (by rw[dq y.2];decide) ?_;rw[Dy];exact bz h1.p1 (iO hi.1)<|AD (GD y).1 hi.1 ⟨rfl,h1.right⟩
theorem QY {dz:List OR} {bm:aJ} {j:Nat} {y:OR} (h:∀(i:Nat) (y:OR),i<j->dz[i]?=some y->jZ y≠bm) (hy:dz[j]?=some y) (he:jZ y=bm):xI dz bm=j:=by
 have e:dz.findIdx? (λy=>decide (jZ y=bm))=some j:=by rw[H4];obtain⟨h1,h2⟩:=ct.1 hy;exact⟨h1,by rw[h2];simpa using he,λi hi=>by have:=h i dz[i] hi (by simp[show i<dz.length by omega]);simpa using this⟩
 rw[xI,e]
theorem aeS {dz:List OR} {bm:aJ} (h:∀(i:Nat) (y:OR),dz[i]?=some y->jZ y≠bm):xI dz bm= -1:=by
 have e:dz.findIdx? (λy=>decide (jZ y=bm))=none:=by rw[List.findIdx?_eq_none_iff];intro y hy;obtain⟨i,hi⟩:=sa.1 hy;simpa using h i y hi
 rw[xI,e]
theorem KT {bm:aJ} (hi:mV bm) (h:V O (fK kx x L*F) w): ae 386 #[al kx,an (gA bm)] w λv w'=>v=aa (xI x.dz bm)/\V O (fK kx x L*F) w':=by
 apply XY;obtain⟨hx,h0⟩:=fK.aK h;have hl:=hx.dz;refine aG h λk1 w1 h1=> ?_;obtain⟨_,h2⟩:=fK.aK h1.p1;refine aq<|aN (aB h2 (i:=4) rfl) ?_;have hI:ae 412 #[af L.1 x.dz.length L.2,.func (.func 413) #[] #[al k1]] w1 λv w'=>v=aa (xI x.dz bm)/\V O (ab k1 (gA bm) 30*(fK kx x L*F)) w':=by
  apply X0;refine⟨λn w m=>∃j:Nat,n=j/\j<=x.dz.length/\m=x.dz.length- j/\(∀(i:Nat) (y:OR),i<j->x.dz[i]?=some y->jZ y≠bm)/\V O (ab k1 (gA bm) 30*(fK kx x L*F)) w,⟨_,0,rfl,by omega,rfl,by omega,h1⟩,?_⟩;rintro _ n w2 m ⟨j,rfl,hj,rfl,ml,h3⟩;refine bU (λaQ=> ?_) (λbW=>⟨?_,h3⟩)
  .obtain⟨y,hy⟩:∃y,x.dz[j]?=some y:=⟨x.dz[j]'(by omega),by simp[show j<x.dz.length by omega]⟩;have dQ:x.dz[(j:Int).toNat]?=some y:=by rw[cu];exact hy
   have hT:=(fK.aK h3.p1).2.right.left;refine dC nO hT (by decide) (by omega) dQ λg hg=>vK nO hT hg dQ ?_;have e:(cS y).toArray=bF y.1:=by simp[cS]
   rw[e];refine Bt Tryz.func413 rfl<|ay (aeR (y:=y) hi h3) ?_;rintro _ w4 ⟨rfl,h4⟩;refine cR<|bU (λhe=>⟨?_,h4⟩) (λhe=>aY (by omega) (by omega) ⟨_,?_,j+1,by omega,by omega,rfl,?_,h4⟩)
   .rw[QY ml hy he]
   .omega
   .intro i u uB hu;rcases sY i j with h|h
    .exact ml i u h hu
    .have:i=j:=by omega
     subst this;rw[hy] at hu;cases hu;exact he
  .rw[aeS λi y hy=>ml i y (by have:=(ct.1 hy).1;omega) hy]
 refine ay hI ?_;rintro _ w2 ⟨rfl,h3⟩;exact bI ⟨rfl,h3.right⟩
end
theorem QZ {α:Type} {S:AS α} (hs:bx S) {x:α} (y:α) (he:(put S x).2.2=0):cF (put S x).1 (put S x).2.1 y=(put S y).1/\(put S y).2=(put S x).2:=by
 have hp:=hs.put x;have key:∀{i:Nat} {g:Int},(put S x).2.1=hd i g->(put S x).1.sp[i]?=some ⟨x,g,1⟩->find (put S x).1 (put S x).2.1=some i:=λh1 h2=>(l6 hp).2 ⟨_,h2,rfl,h1⟩;rcases nQ hs x with⟨fr,i,z,cv,hz,dk,bt⟩|⟨cv,fy,bt⟩|⟨cv,fy,bt⟩
 .have aQ:=(ct.1 hz).1;have hf:=key (i:=i) (g:=z.g) (by rw[bt]) (by rw[bt];simp[aQ]);have e:put S y=(⟨S.aR,S.first,S.sp.set i ⟨y,z.g,1⟩,fr,S.bn+1⟩,hd i z.g,0):=by simp[put,cv,hz]
  refine⟨?_,by rw[e,bt]⟩;unfold cF;rw[hf];dsimp only;rw[uM (y:=⟨x,z.g,1⟩) (by rw[bt];simp[aQ]),e,bt];simp
 .rw[bt] at he;cases he
 .have hf:=key (i:=S.sp.length) (g:=S.first) (by rw[bt]) (by rw[bt];simp);have e:put S y=(⟨S.aR,S.first,S.sp++[⟨y,S.first,1⟩],[],S.bn+1⟩,hd S.sp.length S.first,0):=by
   have:(S.sp.length:Int)≠S.aR:=by omega
   simp[put,cv,this]
  refine⟨?_,by rw[e,bt]⟩;unfold cF;rw[hf];dsimp only;rw[uM (y:=⟨x,S.first,1⟩) (by rw[bt];simp),e,bt];simp
section
variable {O w:ao} {F:HP} {k a kx:Nat} {P:iS} {S:AS np} {x:np} {L:av×Nat}
theorem aeT {dz:List OR} {bm:aJ} {y:OR} (h:dz.find? (λy=>decide (jZ y=bm))=some y):∃i:Nat,xI dz bm=i/\dz[i]?=some y:=by obtain⟨hp,i,hi,he,hn⟩:=List.find?_eq_some_iff_getElem.1 h;refine⟨i,QY (λj u hj hu=> ?_) (by rw[gm hi,he]) (by simpa using hp),by rw[gm hi,he]⟩;have:=hn j hj;obtain⟨h1,h2⟩:=ct.1 hu;rw[h2] at this;simpa using this
theorem aeU {hn:Int} {bm:aJ} {y:OR} (hi:mV bm) (hp:bg S hn=some x) (hy:x.dz.find? (λy=>decide (jZ y=bm))=some y) (h:V O (eE k S*F) w): ae 338 #[al k,ah hn,an (gA bm)] w λv w'=>v=ak #[an (gA (ik y)),aa 0]/\V O (eE k S*F) w':=by
 obtain⟨a,P,h⟩:=eE.aK h;have hr:=ni (PO.ok h) hp;apply XS;have hs:=iO hi.1;refine aG h λk1 w1 h1=>aG h1 λk2 w2 h2=> ?_;have h3:=h2.p1.p2;refine ay (Bu h3 (by omega) hr.2) ?_;rintro _ w3 ⟨rfl,⟨cG,_⟩|⟨kx,x',cG,hk,rfl⟩⟩
 .rw[hp] at cG;cases cG
 .rw[hp] at cG;cases cG;obtain⟨rM,L,R,cV,hx,h4,cl⟩:=PO.at h3 hp;rw[hk] at cV;cases cV;obtain⟨_,h5⟩:=fK.aK h4;refine⟨_,_,rfl,aw rfl<|aq<|gQ (aB h5 (i:=3) rfl)<|aw rfl<|bz h3.p1 hs<|ay (KT hi h4) ?_⟩;rintro _ w6 ⟨rfl,h6⟩;obtain⟨i,s4,CO⟩:=aeT hy;obtain⟨_,h7⟩:=fK.aK h6;have aeV:x.dz[(i:Int).toNat]?=some y:=by rw[cu];exact CO
  have h8:=cl x L _ w6 h6;rw[JU hp (PO.ok h3)] at h8;rw[s4];refine bI<|aw (by simp)<|aq<|aN (aB h7 (i:=4) rfl)<|dC nO h7.right.left (by decide) (by omega) aeV λg hg=> ?_;rw[cu];refine wZ nO (o:=4) (n:=16) h7.right.left hg CO (by decide) rfl ?_;have e:(((cS y).drop 4).take 16).toArray=gA (ik y):=by rw[<-v3];apply cT;rw[pV,oZ];simp[cS]
  rw[e];have hz:=iO (uV y).1;refine bL (h8.p2) rfl hz (λu hu=>jt _ u (by simpa[gA] using hu)) λw8 h9=>bz h9 hz ⟨rfl,eE.aI (a:=a) (P:=P) ?_⟩;exact(h9.p2.p1.g1).right
theorem aeW {ox od:Int} (ml:(S.sp.any λy=>decide (y.st=1)&&(decide (y.x.ox=ox)&&decide (y.x.od=od)))=false) (h:V O (PO k a P S*F) w): ae 383 #[al k,ah ox,ah od] w λv w'=>v=ak #[ah 0,aC false]/\V O (PO k a P S*F) w':=by
 apply XW;have ho:=PO.ok h;refine aG h λk1 w1 h1=>aG h1 λk2 w2 h2=>aw rfl<|aG h2 λk3 w3 h3=>aG h3 λk4 w4 h4=>bD (i:=0) h4.p1 (by simp) λw5 h5=>bD (i:=0) h5.p1 (by simp) λw6 h6=> ?_;have h6:V O (ab k4 #[aC false] 4*(ab k3 #[ah 0] 26*(ab k2 #[ah od] 26*(ab k1 #[ah ox] 26*(PO k a P S*F))))) w6:=h6;have hb:=PO.b (h6.p4);refine aq<|bh (aB hb (i:=0) rfl)<|ay (uN.all h6) ?_;rintro _ w7 ⟨kk,tt,rfl,h7⟩;let Q:HP:=ab kk #[al a] tt*(ab k4 #[aC false] 4*(ab k3 #[ah 0] 26*(ab k2 #[ah od] 26*(ab k1 #[ah ox] 26*(PO k a P S*F)))));refine i6<|j7 ⟨O,_,_,(cB S).map λq=>#[ah (hd q.1 q.2.g),qy (P (hd q.1 q.2.g))],λ_=>Q,λc=>bM False,rfl,uN.body,h7,?_,PA.Bp (OH:=fK) (z:=sG) (a:=a) (t:=tt) uN (λw h=>h.left) (λw h=>(PO.p (h.aF (B:=PO k a P S*(ab kk #[al a] tt*(ab k4 #[aC false] 4*(ab k3 #[ah 0] 26*(ab k2 #[ah od] 26*(ab k1 #[ah ox] 26*F)))))) (by dsimp only[Q];ac_rfl))).left),?_,?_,?_⟩
 .intro x hx;obtain⟨q,_,rfl⟩:=fC.1 hx;rfl
 .intro j x hx G G' T w5 hT h5;obtain⟨q,hq,rfl⟩:=tw hx;have hp:=xE ho hq;have cp:¬(q.2.x.ox=ox/\q.2.x.od=od):=by intro⟨e1,e2⟩;obtain⟨g1,g2⟩:=uL q (dF hq);rw[List.any_eq_false] at ml;have:=ml q.2 (dF g1);simp[g2,e1,e2] at this
  refine⟨_,_,rfl,hT _ _ _ h5 λw8 h8=> ?_⟩;have h9:V O (PO k a P S*(ab kk #[al a] tt*(ab k4 #[aC false] 4*(ab k3 #[ah 0] 26*(ab k2 #[ah od] 26*(ab k1 #[ah ox] 26*(F*G'))))))) w8.drew:=h8.drew.aF (by dsimp only[Q];ac_rfl);obtain⟨kx,L,R,hk,gY,aV,cl⟩:=PO.at h9 hp;obtain⟨_,bu⟩:=fK.aK aV;rw[hk];have on:V O (Q*G') w8.drew:=h8.drew;refine aq<|az (n:=q.2.x.ox) (aB bu (i:=0) rfl)<|az (n:=ox) (h9.right.right.right.right.right.left.cell (i:=0) rfl)<|cy (λe1=>aq<|az (n:=q.2.x.od) (aB bu (i:=1) rfl)<|az (n:=od) (h9.right.right.right.right.left.cell (i:=0) rfl)<|cy (λe2=> ?_) (λ_=>on)) (λ_=>on);exact absurd ⟨by simpa using e1,by simpa using e2⟩ cp
 .intro D w5 h5;have h6:V O (ab k3 #[ah 0] 26*(ab k4 #[aC false] 4*(fw D*((ab kk #[al a] tt*(ab k2 #[ah od] 26*ab k1 #[ah ox] 26))*(PO k a P S*F))))) w5.drew:=h5.drew.aF (by dsimp only[Q];ac_rfl);refine az (n:=0) (h6.left.cell (i:=0) rfl)<|gQ (h6.right.left.cell (i:=0) rfl)<|iL h6.p2 λw' h7=>⟨rfl,h7.right.right.right⟩
 .intro D c w5 h5;exact(V.nJ h5).elim
theorem aeX {y:OR} (hn:x.cn<1000000) (hp:xI x.dz (jZ y)= -1) (h:V O (fK kx x L*F) w): ae 385 #[al kx,an (bF y.1)] w λv w'=>v=aa 0/\V O (fK kx x L*F) w':=by apply XX;obtain⟨hx,h0⟩:=fK.aK h;have hr:=hx.cn;refine aG h λk1 w1 h1=> ?_;obtain⟨_,h2⟩:=fK.aK h1.p1;refine aq<|az (n:=x.cn) (aB h2 (i:=2) rfl)<|aw (by simp;omega)<|ff (n:=16) (o:=20) h1 (by rw[dq y.2];decide) ?_;rw[Dy];refine ay (KT (GD y) h1.p1) ?_;rw[hp];rintro _ w2 ⟨rfl,h3⟩;exact bI<|aW rfl ⟨rfl,h3.p1.right⟩
theorem aeY {y:OR} (h0:y.1.fl=0) (cA:y9 y.1.fl y.1.rf=true) (ml:(S.sp.any λu=>decide (u.st=1)&&(decide (u.x.ox=y.1.ox)&&decide (u.x.od=y.1.dy)))=false) (he:(put S ⟨y.1.ox,y.1.dy,1,[y]⟩).2.2=0) (h:V O (eE k S*F) w): ae 334 #[al k,an (bF y.1)] w λv w'=>v=ak #[ah (put S ⟨y.1.ox,y.1.dy,1,[y]⟩).2.1,aa 0]/\V O (eE k (put S ⟨y.1.ox,y.1.dy,1,[y]⟩).1*F) w':=by
 obtain⟨a,P,h⟩:=eE.aK h;have ho:=PO.ok h;apply XR;have gW:=dq y.2;obtain⟨q1,q2⟩:=QZ ho (x:=⟨y.1.ox,y.1.dy,1,[y]⟩) ⟨y.1.ox,y.1.dy,0,[]⟩ he;have xl:(put S ⟨y.1.ox,y.1.dy,0,[]⟩).2.2=0:=by rw[q2];exact he
 obtain⟨q3,q4⟩:=QZ ho (x:=⟨y.1.ox,y.1.dy,0,[]⟩) ⟨y.1.ox,y.1.dy,1,[y]⟩ xl;have c0:∀{i:Nat} {v:Value},(bF y.1)[i]?=some v->∀{w G k1},V O (ab k1 (bF y.1) 164*G) w->w.cell? ((aD k1).add i)=some v:=λhv w G k1 hw=>aB hw hv;refine aG h λk1 w1 h1=>aw rfl<|az (n:=y.1.fl) (aB h1 (i:=0) rfl)<|aw (by simpa using h0)<|bz h1 gW<|ay (At h1 y.2) ?_;rintro _ w2 ⟨rfl,h2⟩;have KK:i9 y.1=true:=cA;rw[KK];refine bI<|aw rfl<|az (n:=y.1.ox) (aB h2 (i:=2) rfl)<|az (n:=y.1.dy) (aB h2 (i:=3) rfl)<|ay (aeW ml h2.p1) ?_;rintro _ w3 ⟨rfl,h3⟩;refine⟨_,_,rfl,λn w=>n=(put S ⟨y.1.ox,y.1.dy,0,[]⟩).2.1/\∃P',V O (PO k a P' (put S ⟨y.1.ox,y.1.dy,0,[]⟩).1*(ab k1 (bF y.1) 164*F)) w,?_,?_⟩
 .have h3:=h3.drew;have h4:=h3.p1;refine aW rfl<|aq<|bh (aB (PO.b h3) (i:=0) rfl)<|az (n:=y.1.ox) (aB h4 (i:=2) rfl)<|az (n:=y.1.dy) (aB h4 (i:=3) rfl)<|aG h3 λmh w4 h5=> ?_;have h6:=fK.aI (x:=⟨y.1.ox,y.1.dy,0,[]⟩) (p:=none) (c:=0) (l:=0) (F:=PO k a P S*(ab k1 (bF y.1) 164*F)) ⟨y.2.ox,y.2.dy,⟨Int.le_refl 0,show(0:Int)<=1000000 by decide⟩,by simp⟩ rfl ((fE 164 36 cS h5).aF (by show aE 164 36 cS none 0 0 []*(ab mh #[ah y.1.ox,ah y.1.dy,aH 0,aC false,aP] 391*_)=_;ac_rfl));refine ay (PA.F8 uN ((PO.b h6.p1).p1.p2)) ?_;rintro _ w5 ⟨rfl,⟨_,h7⟩|⟨cp,_⟩⟩
  .rw[xl];exact⟨_,_,rfl,aw rfl ⟨rfl,_,PO.jK h7⟩⟩
  .exact absurd xl cp
 .rintro _ n w6 ⟨rfl,P',h7⟩;have hp:bg (put S ⟨y.1.ox,y.1.dy,0,[]⟩).1 (put S ⟨y.1.ox,y.1.dy,0,[]⟩).2.1=some ⟨y.1.ox,y.1.dy,0,[]⟩:=by rw[qx ho xl,if_pos rfl]
  have hr:=ni (PO.ok h7) hp;refine ay (Bu h7 (by omega) hr.2) ?_;rintro _ w7 ⟨rfl,⟨cG,_⟩|⟨kx,x',cG,hk,rfl⟩⟩
  .rw[hp] at cG;cases cG
  .rw[hp] at cG;cases cG;obtain⟨rM,L,R,cV,hx,h8,cl⟩:=PO.at h7 hp;rw[hk] at cV;cases cV;refine⟨_,_,rfl,bz h7.p1 gW<|ay (aeX (show(0:Int)<1000000 by decide) rfl h8) ?_⟩;rintro _ w8 ⟨rfl,h9⟩;obtain⟨_,aV⟩:=fK.aK h9;refine bI<|aw rfl<|aq<|az (n:=0) (aB aV (i:=2) rfl)<|gX (by decide) (by decide)<|aq<|bD (i:=2) aV (by simp) λw9 bu=> ?_;have bA:=fK.aI (x:=⟨y.1.ox,y.1.dy,1,[]⟩) (kx:=kx) (p:=L.1) (c:=L.2) (l:=0) ⟨y.2.ox,y.2.dy,⟨show(0:Int)<=1 by decide,show(1:Int)<=1000000 by decide⟩,by simp⟩ rfl bu;have bN:=bA.p2;refine ff (n:=16) (o:=20) bN (by rw[gW];decide) ?_;rw[Dy];refine ay (KT (GD y) bA) ?_;rintro _ dn ⟨rfl,bY⟩;have bY:=bY.drew;obtain⟨_,cE⟩:=fK.aK bY;have df:=bY.p2;refine bI<|aw rfl<|aq<|aN (aB cE (i:=4) rfl)<|bz df gW ⟨gW,aG cE λKU fF dZ=> ?_⟩;refine ju Gi.aeK nO (by decide) mR (x:=y) (dZ.aF (B:=ab KU (bF y.1) 164*(aE 164 36 cS L.1 0 L.2 []*(ab kx #[ah y.1.ox,ah y.1.dy,aH 1,aC false,af L.1 0 L.2] 391*(R*(ab k1 (bF y.1) 164*F))))) (by show ab KU (bF y.1) 164*(ab kx _ 391*(aE 164 36 cS L.1 0 L.2 []*_))=_;ac_rfl)) (by simp[cS]) (show 0+1<=maxLen by decide) (show(0+1)*56<=140737488355328 by decide) λp' c' fZ fO=>aq<|bD (i:=4) fO.p1 (by simp) λdH fq=> ?_;have jd:=fK.aI (x:=⟨y.1.ox,y.1.dy,1,[y]⟩) (kx:=kx) (p:=p') (c:=c') (l:=0+1) ⟨y.2.ox,y.2.dy,⟨show(0:Int)<=1 by decide,show(1:Int)<=1000000 by decide⟩,by simp⟩ rfl fq;have my:=cl ⟨y.1.ox,y.1.dy,1,[y]⟩ (p',c') _ dH jd;rw[q3] at my;rw[q4];exact⟨rfl,eE.aI my.p1.right⟩
end
section
variable {O w:ao} {F:HP} {k a kx:Nat} {P:iS} {S:AS np} {x:np} {L:av×Nat}
theorem aeZ {p:av} {l c:Nat} {f:Fn} {fa fb:aM} (hl:l<=1):kN au 399 #[af p l c,aa 0,aa l,.func f fa fb] aT:=by intro w;apply XZ;refine aY (by omega) (by omega) ⟨λn w' m=>n=1/\w'=w,⟨0,rfl,rfl⟩,?_⟩;rintro _ n w2 m ⟨rfl,rfl⟩;exact aw (by simp;omega) ⟨rfl,rfl⟩
theorem ae0 {p:av} {l c:Nat} {n:Int} {f:Fn} {fa fb:aM} (hl:l<=1):kN au 364 #[af p l c,aa 0,aa l,aa n,.func f fa fb] aT:=by intro w;apply XV;refine⟨λa b d x y w' m=>a=0/\b=l/\w'=w,⟨0,rfl,rfl,rfl⟩,?_⟩;rintro _ a b d x y w1 m ⟨rfl,rfl,rfl⟩;exact aY (by omega) (by omega)<|aW (by simp;omega)<|fY (aeZ hl) ⟨rfl,rfl,rfl⟩
theorem ae1 {p:av} {l c:Nat} {f:Fn} {fa fb:aM} (hl:l<=1):kN au 307 #[af p l c,.func f fa fb] aT:=by intro w;apply XQ;refine fx (by omega) (by omega)<|ay (PI (w:=w) (by omega) (by omega)) ?_;rintro _ w1 ⟨⟨n,rfl⟩,hw⟩;subst hw;exact bI<|fY (ae0 hl) ⟨rfl,rfl,rfl⟩
theorem ae2 {hn:Int} (hp:bg S hn=some x) (hc:x.cn=1) (hl:x.dz.length<=1) (h:V O (eE k S*F) w): ae 239 #[al k,ah hn] w λv w'=>∃p c,v=ak #[af p x.dz.length c,aa 0]/\V O (aE 164 36 cS p x.dz.length c x.dz*(eE k (cI sG S hn).1*F)) w':=by
 obtain⟨a,P,h⟩:=eE.aK h;have ho:=PO.ok h;have hr:=ni ho hp;apply NY;refine ay (Bu h (by omega) hr.2) ?_;rintro _ w1 ⟨rfl,⟨cG,_⟩|⟨kx,x',cG,hk,rfl⟩⟩
 .rw[hp] at cG;cases cG
 .rw[hp] at cG;cases cG;obtain⟨rM,L,R,cV,hx,h4,cl⟩:=PO.at h hp;rw[hk] at cV;cases cV;obtain⟨_,h5⟩:=fK.aK h4;refine⟨_,_,rfl,aw rfl<|aq<|az (n:=x.cn) (aB h5 (i:=2) rfl)<|gX (by omega) (by omega)<|aq<|bD (i:=2) h5 (by simp) λw2 h6=> ?_⟩;rw[hc] at h6;have h6:V O (ab kx #[ah x.ox,ah x.od,aH 0,aC false,af L.1 x.dz.length L.2] 391*(aE 164 36 cS L.1 x.dz.length L.2 x.dz*(R*F))) w2:=h6;have h7:=fK.aI (x:={x with cn:=0}) (p:=L.1) (c:=L.2) ⟨hx.ox,hx.od,⟨Int.le_refl 0,show(0:Int)<=1000000 by decide⟩,hx.dz⟩ rfl h6;have h8:=cl {x with cn:=0} (L.1,L.2) F w2 h7;have ql:bg (cF S hn {x with cn:=0}) hn=some {x with cn:=0}:=by rw[nS ho hp,if_pos rfl]
  refine aq<|az (n:=0) (aB h6 (i:=2) rfl)<|aw rfl<|aq<|bh (aB (PO.b h8) (i:=0) rfl)<|ay (PA.C3 uN (PO.p h8) ql) ?_;rintro _ w3 ⟨kd,Ld,rfl,qd,h9⟩;rw[hk] at qd;cases qd;obtain⟨_,aV⟩:=fK.aK h9;refine⟨_,_,rfl,aq<|gQ (aB aV (i:=3) rfl)<|aw rfl<|aq<|aN (aB aV (i:=4) rfl)<|fY (ae1 hl) ⟨rfl,aq<|aN (aB aV (i:=4) rfl) ⟨Ld.1,Ld.2,rfl,?_⟩⟩⟩;rw[Qz ho hp] at aV;have bu:=PO.jK (F:=aE 164 36 cS Ld.1 x.dz.length Ld.2 x.dz*F) (k:=k) (a:=a) (aV.right.aF (B:=PA (Px.Ar a) sG fK (qz P hn none) (gz sG S hn)*(ab k #[al a] 224*(aE 164 36 cS Ld.1 x.dz.length Ld.2 x.dz*F))) (by ac_rfl));exact(eE.aI bu).p1
theorem ae3 {hn:Int} (hp:bg S hn=some x) (hc:1<x.cn) (h:V O (eE k S*F) w): ae 239 #[al k,ah hn] w λv w'=>v=ak #[aP,aa 0]/\V O (eE k (cF S hn {x with cn:=x.cn- 1})*F) w':=by
 obtain⟨a,P,h⟩:=eE.aK h;have ho:=PO.ok h;have hr:=ni ho hp;apply NY;refine ay (Bu h (by omega) hr.2) ?_;rintro _ w1 ⟨rfl,⟨cG,_⟩|⟨kx,x',cG,hk,rfl⟩⟩
 .rw[hp] at cG;cases cG
 .rw[hp] at cG;cases cG;obtain⟨rM,L,R,cV,hx,h4,cl⟩:=PO.at h hp;rw[hk] at cV;cases cV;obtain⟨_,h5⟩:=fK.aK h4;have CP:=hx.cn;refine⟨_,_,rfl,aw rfl<|aq<|az (n:=x.cn) (aB h5 (i:=2) rfl)<|gX (by omega) (by omega)<|aq<|bD (i:=2) h5 (by simp) λw2 h6=> ?_⟩;have h6:V O (ab kx #[ah x.ox,ah x.od,aH (x.cn- 1),aC false,af L.1 x.dz.length L.2] 391*(aE 164 36 cS L.1 x.dz.length L.2 x.dz*(R*F))) w2:=h6;have h7:=fK.aI (x:={x with cn:=x.cn- 1}) (p:=L.1) (c:=L.2) ⟨hx.ox,hx.od,by dsimp only;omega,hx.dz⟩ rfl h6;have h8:=cl {x with cn:=x.cn- 1} (L.1,L.2) F w2 h7;exact aq<|az (n:=x.cn- 1) (aB h6 (i:=2) rfl)<|aW (by simp;omega) ⟨rfl,eE.aI h8⟩
theorem Q0 {y:av} (h:V O F w):ae 131 #[ag y] w λv w'=>∃k t,v=.func (.func 222) #[] #[al k]/\V O (ab k #[ag y] t*F) w':=by apply XC;exact aG h λk1 w1 h1=>⟨k1,_,rfl,h1⟩
theorem Q1 {kk tt:Nat} {bG:Nat->HP} (hP:∀w,V O (bG 0) w->V O (ab kk #[al k] tt) w) (hS:∀w,V O (bG 0) w->V O (PO k a P S) w): iD au O 222 #[al kk] bG ((cB S).map λq=>#[ah (hd q.1 q.2.g)]):=by
 intro f b c B Bx cA hB hy F w h;show ae _ #[.func f b c,al kk] w _;apply NX;refine aG h λk1 w1 h1=> ?_;obtain⟨t1,h1⟩:∃t1,V O (ab k1 #[.func f b c] t1*(B 0*F)) w1:=⟨_,h1⟩;have hp:=hP _ (hB 0 _ h1.right.left);have hs:=PO.b (hS _ (hB 0 _ h1.right.left)).cQ.e1;refine bh (hp.cell (i:=0) rfl)<|aw rfl<|bh (hp.cell (i:=0) rfl)<|aq<|bh (aB hs (i:=0) rfl)<|ay (uN.all h1) ?_;rintro _ w4 ⟨k2,t2,rfl,h4⟩;refine i6<|j7 ⟨O,_,_,(cB S).map λq=>#[ah (hd q.1 q.2.g),qy (P (hd q.1 q.2.g))],λj=>ab k2 #[al a] t2*(ab k1 #[.func f b c] t1*(B j*F)),λc=>bM (c=.ret)*(Bx*F),rfl,uN.body,h4,?_,PA.Bp (OH:=fK) (z:=sG) uN (λw h=>h.left) (λw h=>(PO.p (hS _ (hB 0 _ h.right.right.left)).cQ.e1).left),?_,?_,?_⟩
 .intro x hx;obtain⟨q,_,rfl⟩:=fC.1 hx;rfl
 .intro j x hx G G' T w5 hT h5;obtain⟨q,hq,rfl⟩:=tw hx;refine⟨_,_,rfl,hT _ _ _ h5 λw8 h8=> ?_⟩;have h9:V O (ab k1 #[.func f b c] t1*(ab k2 #[al a] t2*(B j*(F*G')))) w8:=h8.aF (by dsimp only;ac_rfl);refine Fm (h9.left.cell (i:=0) rfl)<|nH (hy j _ (by rw[eZ,hq];rfl) (ab k1 #[.func f b c] t1*(ab k2 #[al a] t2*(F*G'))) _ (h9.p2)) ?_;rintro v w9 (⟨rfl,bu⟩|⟨rfl,bu⟩)
  .exact cR<|aw rfl<|bu.aF (by dsimp only;ac_rfl)
  .exact cR<|aW rfl<|(((bu.aF (B:=(ab k2 #[al a] t2*ab k1 #[.func f b c] t1)*((Bx*F)*G')) (by ac_rfl)).right.eL (p:=Code.ret=Code.ret) rfl).aF (by dsimp only;ac_rfl))
 .intro D w5 h5;rw[fk] at h5 ⊢;exact iL h5 λw' h6=>.inl h6.right.right
 .intro D c w5 h5;have h5:=h5.aF (B:=bM (c=.ret)*(fw D*(Bx*F))) (by dsimp only;ac_rfl);obtain rfl:=h5.bM;exact yB<|iL h5.right λw' h6=>.inr h6
def Dz (S:AS np) (t:Int):Bool:=S.sp.any λy=>decide (y.st=1)&&decide (y.x.ox=t)
theorem Q3 (S:AS np) (t:Int):Dz S t=((cB S).find? λq=>decide (q.2.x.ox=t)).isSome:=KE (λx:np=>decide (x.ox=t)) S.sp 0
theorem ae4 {t:Int} (h:V O (eE k S*F) w): ae 95 #[al k,ah t] w λv w'=>v=aC (Dz S t)/\V O (eE k S*F) w':=by
 obtain⟨a,P,h⟩:=eE.aK h;have ho:=PO.ok h;apply XB;refine aG h λk1 w1 h1=>aG h1 λk2 w2 h2=>aG h2 λk3 w3 h3=> ?_;obtain⟨t1,h3⟩:∃t1,V O (ab k3 #[aC false] 4*(ab k2 #[ah t] 26*(ab k1 #[al k] t1*(PO k a P S*F)))) w3:=⟨_,h3⟩;refine bh (h3.right.right.left.cell (i:=0) rfl)<|ay (Q0 h3) ?_;rintro _ w4 ⟨kk,tt,rfl,h4⟩;let p:Nat×bK np->Bool:=λq=>decide (q.2.x.ox=t);let Q:Bool->HP:=λb=>ab kk #[al k] tt*(ab k3 #[aC b] 4*(ab k2 #[ah t] 26*(ab k1 #[al k] t1*(PO k a P S*F))));refine i6<|j7 ⟨O,_,_,(cB S).map λq=>#[ah (hd q.1 q.2.g)],λj=>bM (((cB S).take j).find? p=none)*Q false,λc=>bM (c=.ret/\∃q,(cB S).find? p=some q)*Q true,rfl,⟨_,_,Tryz.func222,rfl⟩,V.eL (by simp) h4,?_,Q1 (k:=k) (a:=a) (P:=P) (tt:=tt) (λw h=>h.right.left) (λw h=>(h.right.aF (B:=PO k a P S*(ab kk #[al k] tt*(ab k3 #[aC false] 4*(ab k2 #[ah t] 26*(ab k1 #[al k] t1*F))))) (by dsimp only[Q];ac_rfl)).left),?_,?_,?_⟩
 .intro x hx;obtain⟨q,_,rfl⟩:=fC.1 hx;rfl
 .intro j x hx G G' T w6 hT h7;obtain⟨q,hq,rfl⟩:=tw hx;have hp:=xE ho hq;have hr:=ni ho hp;refine⟨_,rfl,hT _ _ _ h7 λw7 h8=> ?_⟩;have h8:V O (bM (((cB S).take j).find? p=none)*(Q false*G')) w7:=h8.a;have mA:=h8.bM;have h9:V O (PO k a P S*(ab kk #[al k] tt*(ab k3 #[aC false] 4*(ab k2 #[ah t] 26*(ab k1 #[al k] t1*(F*G')))))) w7:=h8.right.aF (by dsimp only[Q];ac_rfl);refine bh (h9.right.right.right.right.left.cell (i:=0) rfl)<|ay (Bu h9 (by omega) hr.2) ?_;rintro _ w8 ⟨rfl,⟨cG,_⟩|⟨kx,x',cG,hk,rfl⟩⟩
  .rw[hp] at cG;cases cG
  .rw[hp] at cG;cases cG;have h9:=h9.drew;obtain⟨rM,L,R,cV,hx,aV,cl⟩:=PO.at h9 hp;rw[hk] at cV;cases cV;obtain⟨_,bu⟩:=fK.aK aV;refine⟨_,_,rfl,aq<|az (n:=q.2.x.ox) (aB bu (i:=0) rfl)<|az (n:=t) (h9.right.right.right.left.cell (i:=0) rfl)<|cy (λe1=> ?_) (λe1=> ?_)⟩
   .have e1:q.2.x.ox=t:=by simpa using e1
    refine aq<|gQ (aB bu (i:=3) rfl)<|aW rfl<|bD (i:=0) (h9.p4.p4.p3.p4) (by simp) λw9 bA=> ?_;refine(V.eL (p:=Code.ret=Code.ret/\∃q,(cB S).find? p=some q) ⟨rfl,q,KC mA hq (by simp[p,e1])⟩ (bA.aF (B:=Q true*G') ?_)).g1;dsimp only[Q];show ab k3 #[aC true] 4*_=_;ac_rfl
   .have e1:q.2.x.ox≠t:=by simpa using e1
    exact(V.eL (KB mA hq (by simp[p,e1])) h8.right.drew).g1
 .intro D w6 h7;rw[fk] at h7;have h7:=h7.aF (B:=bM (((cB S).take (cB S).length).find? p=none)*(ab k3 #[aC false] 4*(fw D*((ab kk #[al k] tt*(ab k2 #[ah t] 26*ab k1 #[al k] t1))*(PO k a P S*F))))) (by dsimp only[Q];ac_rfl);have mA:=KD h7.bM;refine bD (i:=0) h7.right (by simp) λw7 h8=> ?_;have h8:V O (ab k3 #[aC false] 4*(fw D*((ab kk #[al k] tt*(ab k2 #[ah t] 26*ab k1 #[al k] t1))*(PO k a P S*F)))) w7:=h8;refine iL h8.p1 λw9 aV=>gQ (aV.left.cell (i:=0) rfl) ⟨by rw[Q3,mA];rfl,eE.aI aV.right.right⟩
 .intro D c w6 h7;have h7:=h7.aF (B:=bM (c=.ret/\∃q,(cB S).find? p=some q)*(fw D*Q true)) (by dsimp only;ac_rfl);obtain⟨rfl,q,hf⟩:=h7.bM;have h8:=h7.right.aF (B:=fw D*(ab k3 #[aC true] 4*((ab kk #[al k] tt*(ab k2 #[ah t] 26*ab k1 #[al k] t1))*(PO k a P S*F)))) (by dsimp only[Q];ac_rfl);exact yB<|iL h8 λw9 aV=>gQ (aV.left.cell (i:=0) rfl) ⟨by rw[Q3,hf];rfl,eE.aI aV.right.right⟩
end
theorem xJ {P:Program} {t e:TypeId} {z:Value} {sz bytes:Nat} (T:fe P t e z sz bytes) {O w:ao} {F:HP} {l c:Nat} {K:av->Nat->Nat->ao->Prop} (h:V O F w) (CB:l<=c) (hb:bytes*c<=281474976710656) (ra:c<=9223372036854775807) (hk:∀b w',V O (ab b (fX z c).toArray e*F) w'->K (aU b) l c w'):bR P (Instr.makeSlice t (aa (l:Int)) (aa (c:Int))) w K:=by
 obtain⟨i,hi,hz,gW,qm⟩:=T.parts;subst gW;subst qm;have hr:=run_make (P:=P) w t e i z T.under hi hz .i64 .i64 (l:Int) (c:Int) (by omega) (by omega) (by rw[<-Cj];omega) (by omega);simp only[cu] at hr;refine⟨_,_,_,_,hr,hk _ _ ?_⟩;have e1:madeCells z.cells (c*i.size)=(fX z c).toArray:=by apply cT;simp[fX,wW,madeCells,T.cells]
 rw[<-e1];exact h.alloc _
structure QE where
 y:PK
 q:av
 d:Nat
 ok:jb y
 rs:y.rs=[]
def gB (e:QE):dB:=jI e.y (af e.q 0 e.d)
theorem qF (e:QE):(gB e).length=25:=OA e.ok.ip
def cH:QE:=⟨dX,none,0,Qn,rfl⟩
def gC (e:QE):aM:=bC e.y (af e.q 0 e.d)
theorem KV (e:QE):(gB e).toArray=gC e:=rfl
theorem oa (e:QE):(gC e).size=25:=jc e.ok.ip
theorem zf (e:QE):∀u∈(gC e).toList,u.oneCell'=true:=yJ
theorem Q4:fe au 225 150 (an (gC cH)) 25 104:=⟨by kernel_rfl,by kernel_rfl,rfl,by decide⟩
def Bv (l:List QE) (f:Nat) (ys:List QE):Prop:=(ys=[]/\l=[]/\f=0)\/(ys.length=4/\f<4/\l.length<=4/\∀i,i<l.length->ys[(f+i)%4]?=l[i]?)
def iV (p:av) (n c f m:Nat):aM:=#[aa 16,af p n c,aa (f:Int),aa (m:Int)]
def gV (k:Nat) (l:List QE):HP:=ex λp=>ex λc=>ex λf=>ex λys=>bM (Bv l f ys)*(ab k (iV p ys.length c f l.length) 227*aE 150 25 gB p ys.length c ys)
section
variable {O w:ao} {F:HP} {k:Nat} {l:List QE}
theorem gV.aK (h:V O (gV k l*F) w):∃p c f ys,Bv l f ys/\V O (ab k (iV p ys.length c f l.length) 227*(aE 150 25 gB p ys.length c ys*F)) w:=by obtain⟨p,h⟩:=V.ex h;obtain⟨c,h⟩:=V.ex h;obtain⟨f,h⟩:=V.ex h;obtain⟨ys,h⟩:=V.ex h;have h:=h.a.p1.a.p2;exact⟨p,c,f,ys,h.bM,h.right⟩
theorem gV.aI {p:av} {n m c f:Nat} {ys:List QE} (hr:Bv l f ys) (hn:n=ys.length) (hm:m=l.length) (h:V O (ab k (iV p n c f m) 227*(aE 150 25 gB p n c ys*F)) w):V O (gV k l*F) w:=by subst hn hm;exact V.bO p (V.bO c (V.bO f (V.bO ys ((h.eL hr).g2))))
theorem ae5 (h:V O F w):ae 43 #[aa 16] w λv w'=>∃k,v=ak #[al k,aa 0]/\V O (gV k []*F) w':=by apply Y6;exact aw rfl<|aw rfl<|aG h λk1 w1 h1=>⟨k1,rfl,gV.aI (l:=[]) (p:=none) (n:=0) (m:=0) (c:=0) (f:=0) (ys:=[]) (.inl ⟨rfl,rfl,rfl⟩) rfl rfl ((fE 150 25 gB h1).aF (by show aE 150 25 gB none 0 0 []*(ab k1 (iV none 0 0 0 0) 227*F)=_;ac_rfl))⟩
theorem KW (h:V O (gV k l*F) w):ae 68 #[al k] w λv w'=>v=aa l.length/\w'=w:=by apply Y9;obtain⟨p,c,f,ys,hr,h1⟩:=gV.aK h;exact aw rfl<|aq<|az (n:=(l.length:Int)) (aB h1 (i:=3) rfl) ⟨rfl,rfl⟩
theorem ae6 {e:QE} {l:List QE} (h:V O (gV k (e::l)*F) w):ae 184 #[al k,aa 0] w λv w'=>v=ak #[an (gC e),aa 0]/\V O (gV k (e::l)*F) w':=by
 apply Zr;refine aG h λk1 w1 h1=>aw rfl<|ay (KW h1.p1) ?_;rintro _ _ ⟨rfl,rfl⟩;have h2:=h1.drew.p1;obtain⟨p,c,f,ys,hr,h3⟩:=gV.aK h2;rcases hr with⟨_,hl,_⟩|⟨h4,hf,hl,hi⟩
 .cases hl
 .have h0:=hi 0 (by simp);rw[sZ,zQ hf] at h0;have h0:ys[f]?=some e:=h0;have h0':ys[((f:Int)+0:Int).toNat%4]?=some e:=by rw[show((f:Int)+0).toNat%4=f by omega];exact h0
  refine bI<|aw (by simp)<|aq<|aN (aB h3 (i:=1) rfl)<|aq<|az (n:=(f:Int)) (aB h3 (i:=2) rfl)<|aY (by omega) (by omega)<|aq<|aN (aB h3 (i:=1) rfl)<|uo (by omega) (by omega) ?_;have e1:((f:Int)+0)%(ys.length:Int)=(f:Int):=by rw[h4];omega
  rw[e1];have ae7:ys[(f:Int).toNat]?=some e:=by rw[cu];exact h0
  refine dC qF h3.right.left (by decide) (by omega) ae7 λg hg=> ?_;rw[cu];refine vK qF h3.right.left hg h0 ?_;rw[KV];refine bL h2.p1 rfl (oa e) (zf e) λw7 h5=>bz h5 (oa e) ⟨rfl,h5.right⟩
theorem ae8 (h:V O (gV k []*F) w):ae 370 #[al k] w λv w'=>v=aP/\w'=w:=by apply ZO;refine ay (KW h) ?_;rintro _ w1 ⟨rfl,rfl⟩;refine bI ⟨λp l c n w' m=>p=none/\l=0/\c=0/\n=0/\w'=w1,⟨0,rfl,rfl,rfl,rfl,rfl⟩,?_⟩;rintro _ p l c n w2 m ⟨rfl,rfl,rfl,rfl,rfl⟩;exact aw rfl ⟨rfl,rfl⟩
theorem ae9 {kk t:Nat} {bG:Nat->HP} (hP:∀w,V O (bG 0) w->V O (ab kk #[al k] t) w) (hR:∀w,V O (bG 0) w->V O (gV k []) w): iD au O 369 #[al kk] bG []:=by intro f b c B Bx cA hB hy F w h;show ae _ #[.func f b c,al kk] w _;apply ZN;refine bh ((hP _ (hB 0 _ h.left)).cell (i:=0) rfl)<|ay (ae8 (hR _ (hB 0 _ h.left)).cQ.e1) ?_;rintro _ w1 ⟨rfl,rfl⟩;refine iE ⟨λn w' m=>n=0/\w'=w1,⟨0,rfl,rfl⟩,?_⟩;rintro _ n w2 m ⟨rfl,rfl⟩;exact aw rfl (.inl h)
theorem afa {p:av} {c:Nat} (h:V O (ab k (iV p 0 c 0 0) 227*(aE 150 25 gB p 0 c []*F)) w): ae 246 #[al k] w λv w'=>v=aT/\∃p c,V O (ab k (iV p 4 c 0 0) 227*(aE 150 25 gB p 4 c [cH,cH,cH,cH]*F)) w':=by
 apply Zx;have hd:=h.drew;have ez:fX (an (gC cH)) 4=[cH,cH,cH,cH].flatMap gB:=by kernel_rfl
 refine⟨λa w=>∃b t,a=(aD b)/\∃d,V O (ab b #[af (aU d) 0 4] t*(ab d ([cH,cH,cH,cH].flatMap gB).toArray 150*(gV k []*F))) w,aq<|aN (aB hd (i:=1) rfl)<|aY (by decide) (by decide)<|aY (by decide) (by decide)<|aq<|az (n:=16) (aB hd (i:=0) rfl) ⟨?_,?_⟩,?_⟩
 .refine xJ Q4 (l:=0) (c:=4) hd (by decide) (by decide) (by decide) λd w1 h1=> ?_;rw[ez] at h1;refine aG h1 λk9 w2 h2=>bD (i:=0) h2 (by simp) λw3 h3=>⟨k9,225,rfl,d,?_⟩;refine(gV.aI (l:=[]) (k:=k) (p:=p) (n:=0) (m:=0) (c:=c) (f:=0) (ys:=[]) (F:=ab k9 #[af (aU d) 0 4] 225*(ab d ([cH,cH,cH,cH].flatMap gB).toArray 150*F)) (.inl ⟨rfl,rfl,rfl⟩) rfl rfl (h3.aF ?_)).p2.p2;show ab k9 #[af (aU d) 0 4] 225*_=_;ac_rfl
 .refine aG hd λk9 w1 h1=>xJ Q4 (l:=0) (c:=4) h1 (by decide) (by decide) (by decide) λd w2 h2=> ?_;rw[ez] at h2;refine bD (i:=0) h2.p1 (by simp) λw3 h3=>⟨k9,225,rfl,d,?_⟩;refine(gV.aI (l:=[]) (k:=k) (p:=p) (n:=0) (m:=0) (c:=c) (f:=0) (ys:=[]) (F:=ab k9 #[af (aU d) 0 4] 225*(ab d ([cH,cH,cH,cH].flatMap gB).toArray 150*F)) (.inl ⟨rfl,rfl,rfl⟩) rfl rfl (h3.aF ?_)).p2.p2;show ab k9 #[af (aU d) 0 4] 225*_=_;ac_rfl
 .rintro _ a w7 ⟨b,t,rfl,d,h7⟩;have hA:ae 315 #[al k] w7 λv w'=>∃kk t2,v=.func (.func 369) #[] #[al kk]/\V O (ab kk #[al k] t2*(ab b #[af (aU d) 0 4] t*(ab d ([cH,cH,cH,cH].flatMap gB).toArray 150*(gV k []*F)))) w':=by apply ZH;exact aG h7 λk1 w1 h1=>⟨k1,_,rfl,h1⟩
  refine ay hA ?_;rintro _ w8 ⟨kk,t2,rfl,h8⟩;refine i6<|j7 ⟨O,_,_,[],λ_=>ab kk #[al k] t2*(ab b #[af (aU d) 0 4] t*(ab d ([cH,cH,cH,cH].flatMap gB).toArray 150*(gV k []*F))),λc=>bM False,rfl,⟨_,_,Tryz.func369,rfl⟩,h8,by simp,ae9 (k:=k) (kk:=kk) (t:=t2) (λw h=>h.left) (λw h=>h.right.right.right.left),λj x hx=>by simp at hx,?_,?_⟩
  .intro D w9 h9;obtain⟨p,c,f,ys,hr,aV⟩:=gV.aK (h9.aF (B:=gV k []*(fw D*(ab kk #[al k] t2*(ab b #[af (aU d) 0 4] t*(ab d ([cH,cH,cH,cH].flatMap gB).toArray 150*F))))) (by dsimp only;ac_rfl));have bu:V O (ab b #[af (aU d) 0 4] t*(ab k (iV p ys.length c f 0) 227*(fw D*((ab kk #[al k] t2*aE 150 25 gB p ys.length c ys)*(ab d ([cH,cH,cH,cH].flatMap gB).toArray 150*F))))) w9:=aV.aF (by show ab k (iV p ys.length c f 0) 227*_=_;ac_rfl);refine aN (bu.left.cell (i:=0) rfl)<|aN (bu.left.cell (i:=0) rfl)<|oI (by decide) (by decide) (by decide) ?_;rw[if_neg (by decide)];refine aq<|bD (i:=1) bu.p1 (by simp[iV]) λdn bA=>aq<|bD (i:=2) bA (by simp[iV]) λdP bN=> ?_;have ea:(((iV p ys.length c f 0).setIfInBounds 1 (af (some ((aD d).add ((0:Int).toNat*25))) ((((4:Nat):Int)).toNat- (0:Int).toNat) (4- (0:Int).toNat))).setIfInBounds 2 (aa 0))=iV (aU d) 4 4 0 0:=by
    have:((aD d).add ((0:Int).toNat*25))=(aD d):=by rw[du];rfl
    rw[this];rfl
   have bN:V O (ab k (iV (aU d) 4 4 0 0) 227*(ab b #[af (aU d) 0 4] t*(fw D*((ab kk #[al k] t2*aE 150 25 gB p ys.length c ys)*(ab d ([cH,cH,cH,cH].flatMap gB).toArray 150*F))))) dP:=by rw[<-ea];exact bN
   refine iL bN.p2 λfF bY=>⟨rfl,some (aD d),4,?_⟩;have cE:=V.lx (t:=150) (sz:=25) (n:=4) (bY.aF (B:=ab d ([cH,cH,cH,cH].flatMap gB).toArray 150*(ab k (iV (aU d) 4 4 0 0) 227*((ab b #[af (aU d) 0 4] t*(ab kk #[al k] t2*aE 150 25 gB p ys.length c ys))*F))) (by ac_rfl)) rfl (by decide);have df:V O (aE 150 25 gB (aU d) 4 4 [cH,cH,cH,cH]*(ab k (iV (aU d) 4 4 0 0) 227*((ab b #[af (aU d) 0 4] t*(ab kk #[al k] t2*aE 150 25 gB p ys.length c ys))*F))) fF:=cE;exact(df.p2.a.p1.a.p4.p2.p2.p3.g2).right
  .intro D c w5 h6;exact(V.nJ h6).elim
end
section
variable {O w:ao} {F:HP} {k:Nat} {l:List QE}
theorem afb {e:QE} {f:Nat} {ys:List QE} (hr:ys.length=4/\f<4/\l.length<=3/\∀i,i<l.length->ys[(f+i)%4]?=l[i]?):Bv (l++[e]) f (ys.set ((f+l.length)%4) e):=by
 obtain⟨h4,hf,hl,hi⟩:=hr;refine .inr ⟨by simp[h4],hf,by simp;omega,λi aQ=> ?_⟩;rw[gp,B8] at aQ;rw[jR];split
 .rename_i he;have uW:i=l.length:=by omega
  subst uW;rw[if_pos (by omega),ix (eJ _)];simp
 .rename_i he;have uW:i<l.length:=by
   rcases sY i l.length with h|h
   .exact h
   .exfalso;have:i=l.length:=by omega
    subst this;exact he rfl
  rw[r9 uW];exact hi i uW
theorem afc {e:QE} (hl:l.length<=3) (h:V O (gV k l*F) w):ae 155 #[al k,an (gC e)] w λv w'=>v=aa 0/\V O (gV k (l++[e])*F) w':=by
 apply Zn;refine aG h λk1 w1 h1=>aw rfl ?_;obtain⟨p,c,f,ys,hr,h2⟩:=gV.aK h1.drew.p1;refine aq<|az (n:=(l.length:Int)) (aB h2 (i:=3) rfl)<|aq<|az (n:=16) (aB h2 (i:=0) rfl)<|aw (by simp;omega) ?_;refine⟨λw=>∃p c f ys,(ys.length=4/\f<4/\l.length<=3/\∀i,i<l.length->ys[(f+i)%4]?=l[i]?)/\V O (ab k (iV p ys.length c f l.length) 227*(aE 150 25 gB p ys.length c ys*(ab k1 (gC e) 150*F))) w,?_,?_⟩
 .have h3:=h2.drew;refine aq<|az (n:=(l.length:Int)) (aB h3 (i:=3) rfl)<|aq<|aN (aB h3 (i:=1) rfl) ?_;rcases hr with⟨rfl,rfl,rfl⟩|⟨h4,hf,_,hi⟩
  .refine aW rfl<|ay (afa h3) ?_;rintro _ w2 ⟨rfl,p',c',h4⟩;exact⟨rfl,p',c',0,[cH,cH,cH,cH],⟨rfl,by decide,by decide,λi hi=>by simp at hi⟩,h4⟩
  .exact aw (by simp;omega) ⟨p,c,f,ys,⟨h4,hf,hl,hi⟩,h3⟩
 .rintro _ w3 ⟨p,c,f,ys,hr,h3⟩;have h3:=h3.drew;obtain⟨h4,hf,hl3,hi⟩:=hr;refine aq<|aN (aB h3 (i:=1) rfl)<|aq<|az (n:=(f:Int)) (aB h3 (i:=2) rfl)<|aq<|az (n:=(l.length:Int)) (aB h3 (i:=3) rfl)<|aY (by omega) (by omega)<|aq<|aN (aB h3 (i:=1) rfl)<|uo (by omega) (by omega) ?_;have e1:((f:Int)+l.length)%(ys.length:Int)=(((f+l.length)%4:Nat):Int):=by rw[h4];omega
  rw[e1];have aQ:(f+l.length)%4<4:=Nat.mod_lt _ (by decide);obtain⟨y,hy⟩:∃y,ys[(f+l.length)%4]?=some y:=⟨ys[(f+l.length)%4]'(by omega),by simp[h4,aQ]⟩;have dQ:ys[(((f+l.length)%4:Nat):Int).toNat]?=some y:=by rw[cu];exact hy
  refine bz h3.p2 (oa e)<|dC qF h3.right.left (by decide) (by omega) dQ λg hg=> ?_;rw[cu];have dk:=rh (P:=au) (o:=0) (n:=25) (y':=e) (vs:=gC e) (K:=λw4=>nn (aU k) λKX=>ax .i64 (KX.add 3) w4 λDA=>arith .i64 (DA+1) λQM=>nn (aU k) λa28=>st (a28.add 3) (aa QM) w4 λw5=>aa 0=aa 0/\V O (gV k (l++[e])*F) w5) qF h3.p1 hg hy (by decide) (oa e) (zf e) (by rw[qT,m8,mJ (by rw[qF];decide),jS];simp[gC,gB,bC]) λw4 h5=> ?_
  .rwa[Sp.add_zero] at dk
  .have h5:=h5.p1;refine aq<|az (n:=(l.length:Int)) (aB h5 (i:=3) rfl)<|aY (by omega) (by omega)<|aq<|bD (i:=3) h5 (by simp[iV]) λw5 h6=>⟨rfl,?_⟩;have e2:(iV p ys.length c f l.length).setIfInBounds 3 (aa ((l.length:Int)+1))=iV p ys.length c f (l.length+1):=by
    have:(((l.length+1:Nat)):Int)=(l.length:Int)+1:=by omega
    simp[iV]
   refine gV.aI (ys:=ys.set ((f+l.length)%4) e) (n:=ys.length) (m:=l.length+1) (f:=f) (p:=p) (c:=c) (afb ⟨h4,hf,hl3,hi⟩) (by simp) (by simp) ?_;rw[<-e2];have h6:V O (ab k ((iV p ys.length c f l.length).setIfInBounds 3 (aa ((l.length:Int)+1))) 227*(aE 150 25 gB p ys.length c (ys.set ((f+l.length)%4) e)*(ab k1 (gC e) 150*F))) w5:=h6;exact(h6.p2).right
theorem aff {e:QE} {f:Nat} {ys:List QE} {l:List QE} (hr:Bv (e::l) f ys):ys.length=4/\f<4/\ys[f]?=some e/\Bv l ((f+1)%4) (ys.set f cH):=by
 rcases hr with⟨_,hl,_⟩|⟨h4,hf,hl,hi⟩
 .cases hl
 .have h0:=hi 0 (by simp);rw[sZ,zQ hf] at h0;refine⟨h4,hf,h0,.inr ⟨by simp[h4],Nat.mod_lt _ (by decide),by simp at hl;omega,λi aQ=> ?_⟩⟩;have h1:=hi (i+1) (by simp;omega);have e1:(f+(i+1))%4=((f+1)%4+i)%4:=by omega
  rw[e1] at h1;simp only[iB] at hl;rw[jR,if_neg (by omega),h1];rfl
theorem afg {e:QE} {l:List QE} (h:V O (gV k (e::l)*F) w):ae 104 #[al k] w λv w'=>v=ak #[an (gC e),aa 0]/\V O (gV k l*F) w':=by
 apply Zi;refine aG h λk1 w1 h1=>ay (ae6 h1.p1) ?_;rintro _ w2 ⟨rfl,h2⟩;refine⟨_,_,rfl,aG h2 λk5 w3 h3=>bL h3 rfl (oa e) (zf e) λw4 h4=>aW rfl<|aG h4 λk6 w5 h5=> ?_⟩;have h5:V O (ab k6 (gC cH) 150*(ab k5 (gC e) 150*(gV k (e::l)*(ab k1 (gC cH) 150*F)))) w5.drew:=h5.drew;obtain⟨p,c,f,ys,hr,h6⟩:=gV.aK (h5.p2);obtain⟨ug,hf,hy,GC⟩:=aff hr;have dQ:ys[(f:Int).toNat]?=some e:=by rw[cu];exact hy
 refine aq<|aN (aB h6 (i:=1) rfl)<|aq<|az (n:=(f:Int)) (aB h6 (i:=2) rfl)<|bz h5 (oa cH)<|dC qF h6.right.left (by decide) (by omega) dQ λg hg=> ?_;rw[cu];have key:∀(K:ao->Prop),(∀w',V O (aE 150 25 gB p ys.length c (ys.set f cH)*(ab k (iV p ys.length c f (e::l).length) 227*(ab k6 (gC cH) 150*(ab k5 (gC e) 150*(ab k1 (gC cH) 150*F))))) w'->K w')->aS au ⟨g,f*25,none⟩ 25 (gC cH) w5.drew K:=by intro K hK;have dk:=rh (P:=au) (o:=0) (n:=25) (y':=cH) (vs:=gC cH) (K:=K) qF h6.p1 hg hy (by decide) (oa cH) (zf cH) (by rw[qT,m8,mJ (by rw[qF];decide),jS];rfl) hK;rwa[Sp.add_zero] at dk
 refine key _ λw6 h7=> ?_;have h7:=h7.drew.p1;refine aq<|az (n:=(f:Int)) (aB h7 (i:=2) rfl)<|aY (by omega) (by omega)<|aq<|aN (aB h7 (i:=1) rfl)<|uo (by omega) (by omega) ?_;have e1:((f:Int)+1)%(ys.length:Int)=(((f+1)%4:Nat):Int):=by rw[ug];omega
 rw[e1];refine aq<|bD (i:=2) h7 (by simp[iV]) λw7 h8=> ?_;have h8:V O (ab k (iV p ys.length c ((f+1)%4) (e::l).length) 227*(aE 150 25 gB p ys.length c (ys.set f cH)*(ab k6 (gC cH) 150*(ab k5 (gC e) 150*(ab k1 (gC cH) 150*F))))) w7:=h8;refine aq<|az (n:=((e::l).length:Int)) (aB h8 (i:=3) rfl)<|aY (by simp) (by
  have:(e::l).length<=4:=by rcases hr with⟨_,hl,_⟩|⟨_,_,hl,_⟩;cases hl;exact hl
  omega)<|aq<|bD (i:=3) h8 (by simp[iV]) λw8 h9=> ?_
 have e2:(iV p ys.length c ((f+1)%4) (e::l).length).setIfInBounds 3 (aa (((e::l).length:Int)- 1))=iV p ys.length c ((f+1)%4) l.length:=by
  have:((((e::l).length:Nat)):Int)- 1=(l.length:Int):=by simp
  simp[iV]
 have h9:V O (ab k (iV p ys.length c ((f+1)%4) l.length) 227*(aE 150 25 gB p ys.length c (ys.set f cH)*(ab k6 (gC cH) 150*(ab k5 (gC e) 150*(ab k1 (gC cH) 150*F))))) w8:=by rw[<-e2];exact h9
 have aV:=gV.aI (ys:=ys.set f cH) (n:=ys.length) (m:=l.length) (f:=(f+1)%4) GC (by simp) rfl h9;refine bz aV.p2 (oa e)<|bL aV.p3 (oa cH) (oa e) (zf e) λw9 bu=>bz bu (oa e) ⟨rfl,?_⟩;exact(bu.p3.p3.p2.g2).right
end
end Go.Proofs.YtjhnnnfnkjighaaGreatDoor
