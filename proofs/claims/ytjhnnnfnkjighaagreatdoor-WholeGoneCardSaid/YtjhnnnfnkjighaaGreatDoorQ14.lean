/- Whole: a part of the proof. No conditions. -/
import Derived.Test.YtjhnnnfnkjighaaGreatDoorQ13
set_option linter.unusedVariables false
set_option linter.unusedSimpArgs false
set_option maxRecDepth 100000
namespace Go.Proofs.YtjhnnnfnkjighaaGreatDoor
open Go.Sp Go.RowKit
section
variable {β:Type} {l:List β} {p:β->Bool}
theorem KB {j:Nat} {q:β} (h:(l.take j).find? p=none) (hq:l[j]?=some q) (hp:p q=false):(l.take (j+1)).find? p=none:=by rw[fV,hq,List.find?_append,h];simp[hp]
theorem KC {j:Nat} {q:β} (h:(l.take j).find? p=none) (hq:l[j]?=some q) (hp:p q=true):l.find? p=some q:=by
 have aQ:=(ct.1 hq).1;have e:l=l.take j++(q::l.drop (j+1)):=by
  conv=>lhs;rw[<-mK j l,ll aQ]
  rw[(ct.1 hq).2]
 rw[e,List.find?_append,h,List.find?_cons,hp];rfl
theorem KD (h:(l.take l.length).find? p=none):l.find? p=none:=by rwa[j4] at h
end
abbrev cB {α:Type} (S:AS α):List (Nat×bK α):=cq 0 S.sp
theorem xE {α:Type} {S:AS α} (hs:bx S) {j:Nat} {q:Nat×bK α} (h:(cB S)[j]?=some q):bg S (hd q.1 q.2.g)=some q.2.x:=by obtain⟨h1,h2⟩:=uL q (dF h);exact(rC hs).2 ⟨q.1,q.2,h1,h2,rfl,rfl⟩
theorem KE {α:Type} (p:α->Bool):∀(ys:List (bK α)) (i:Nat),(ys.any λy=>decide (y.st=1)&&p y.x)=((cq i ys).find? λq=>p q.2.x).isSome
 |[],_=>rfl
 |y::ys,i=>by
  rw[List.any_cons,cq,KE p ys (i+1)];by_cases h:y.st=1
  .rw[if_pos h,List.find?_cons];cases hp:p y.x<;>simp[h,hp]
  .rw[if_neg h];simp[h]
section
variable {α lm:Type} {z:α} {OH:Nat->α->lm->HP} {O w:ao} {F:HP} {P:iS} {S:AS α} {Ar:Nat->AS Py->HP} {a:Nat} {C0 AU AV AW C1 vT:FuncId}
theorem PA.Bp (C:F6 C0 AU AV AW C1 vT Ar) {k t:Nat} {bG:Nat->HP} (hP:∀w,V O (bG 0) w->V O (ab k #[al a] t) w) (hA:∀w,V O (bG 0) w->V O (PA (Ar a) z OH P S) w): iD au O vT #[al k] bG ((cB S).map λq=>#[ah (hd q.1 q.2.g),qy (P (hd q.1 q.2.g))]):=by have:=PA.C2 C hP hA;rwa[qw,lq] at this
end
section
variable {O w:ao} {F:HP} {k a kx:Nat} {ox:Int} {P:iS} {S:AS cC} {x:cC} {L:Nat×Nat}
def xF (S:AS cC) (g:aJ):Value:=match ki S g with|none=>ak #[ah 0,an (gA dW),aa 10]|some q=>ak #[ah q.2.tg,an (gA q.2.bm),aa 0]
theorem QC {g:aJ} (hg:mV g) (h:V O (dD k ox S*F) w): ae 175 #[al k,an (gA g)] w λv w'=>v=xF S g/\V O (dD k ox S*F) w':=by
 obtain⟨a,P,h⟩:=dD.aK h;apply XI;have hs:=iO hg.1;refine aG h λk1 w1 h1=>aG h1 λk2 w2 h2=>bz h2.p1 hs<|ay (Dh hg (h2.aF (B:=SO k ox a P S*(ab k1 (gA g) _*(ab k2 _ _*F))) (by ac_rfl))) ?_;unfold xF;rintro _ w3 ⟨h3,⟨hf,rfl⟩|⟨hn,kx,x,hf,hp,hk,rfl⟩⟩
 .rw[hf];refine⟨_,_,_,rfl,aW rfl<|bL (h3.p2) rfl rfl (by decide) λw4 h4=>bz h4 rfl ⟨rfl,dD.aI (a:=a) (P:=P) ?_⟩⟩;exact(h4.p2.p1.g1).right
 .rw[hf];have h3:=h3.drew;obtain⟨rM,L,R,cV,hx,h4,cl⟩:=SO.at h3 hp;rw[hk] at cV;cases cV;obtain⟨_,h5⟩:=eD.aK h4;have hi:=hx.bm.1;refine⟨_,_,_,rfl,aw rfl<|aq<|az (n:=x.tg) (aB h5 Bm)<|aq<|ff (n:=16) h5 (by rw[Dg hi];decide) ?_⟩;rw[Qx hi];refine bL (h3.p2) rfl (iO hi) (λu hu=>jt _ u (by simpa[gA] using hu)) λw4 h6=>bz h6 (iO hi) ⟨rfl,dD.aI (a:=a) (P:=P) ?_⟩;exact(h6.p2.p1.g1).right
def KF (s:AS cC) (rH:aJ) (fr to n:Int):Option (AS cC):=
 (ki s rH).bind λq=>if jg q.2.cs fr<n then none else(sI q.2.cs fr (jg q.2.cs fr- n)).bind λcs=>if jg cs to+n<1000000 then(sI cs to (jg cs to+n)).map λcs'=>cF s q.1 {q.2 with cs:=cs'} else none
theorem aer {g:aJ} {fr to n:Int} {S':AS cC} (hg:mV g) (hn:0<=n) (h:V O (dD k ox S*F) w) (hm:KF S g fr to n=some S'): ae 200 #[al k,an (gA g),ah fr,ah to,aH n] w λv w'=>v=aa 0/\V O (dD k ox S'*F) w':=by
 obtain⟨a,P,h⟩:=dD.aK h;apply XK;have hs:=iO hg.1;refine aG h λk1 w1 h1=>bz h1 hs<|ay (Dh hg h1.p1) ?_;obtain⟨⟨KA,x⟩,hf,hm⟩:=bZ.1 hm;rintro _ w2 ⟨h2,⟨sg,_⟩|⟨Dl,kx,x',sg,hp,hk,rfl⟩⟩
 .rw[hf] at sg;cases sg
 .rw[hf] at sg;cases sg;dsimp only at hm;split at hm
  .cases hm
  rename_i bW;obtain⟨cs,dT,hm⟩:=bZ.1 hm;split at hm;case isFalse=>cases hm
  rename_i aQ;obtain⟨cs',QD,rfl⟩:=dd.1 hm;obtain⟨rM,L,R,cV,hx,h3,cl⟩:=SO.at h2 hp;rw[hk] at cV;cases cV;obtain⟨_,h4⟩:=eD.aK h3;have hi:=hx.bm.1;have hr:=Dj hx fr;have hl:=Di x.cs fr hx.aZ;refine⟨_,_,_,rfl,aw rfl<|aq<|bh (aB h4 (xD hi))<|ay (JE (key:=fr) (n:=n) h4.p1 (by omega) hn) ?_⟩;rintro _ w3 (⟨oJ,_⟩|⟨xg,rfl,h5⟩)
  .omega
  .rw[hl,(Bo dT).1] at h5;have re:=hx.Dk dT (by omega);have fp:=Dj re to;have vG:=Di cs to re.aZ;have h6:=h5.p1;have e2:0<=(lk cs to).getD 0:=by rw[vG];exact fp.1
   have e3:(lk cs to).getD 0+n<=4294967295:=by rw[vG];omega
   refine⟨_,_,rfl,aw rfl<|aq<|bh (aB h6 (xD hi))<|ay (Ps (key:=to) (n:=n) h5 e2 hn e3) ?_⟩;rintro _ w4 ⟨rfl,h7⟩;rw[vG,(Bo QD).1] at h7;have hx3:rL {x with cs:=cs'}:=re.Dk (x:={x with cs:=cs}) QD ⟨by have:0<=jg cs to:=fp.1;omega,by omega⟩;have h8:=cl {x with cs:=cs'} L _ w4 (eD.aI hx3 h7.p1);exact⟨_,_,rfl,aw rfl ⟨rfl,dD.aI h8.p1.right⟩⟩
def Gx (s:AS cC) (rH:aJ):Option (AS cC):=
 match ki s rH with
 |none=>some s
 |some (h,x)=>if x.t1=0 then none else some (lJ s h {x with t1:=x.t1- 1})
theorem aet {g:aJ} {S':AS cC} (hg:mV g) (h:V O (dD k ox S*F) w) (hm:Gx S g=some S'): ae 192 #[al k,an (gA g),aH 1] w λv w'=>(∃e,v=aa e)/\V O (dD k ox S'*F) w':=by
 obtain⟨a,P,h⟩:=dD.aK h;apply XJ;have hs:=iO hg.1;have ho:=SO.ok h;refine aG h λk1 w1 h1=>bz h1 hs<|ay (Dh hg h1.p1) ?_;unfold Gx at hm;rintro _ w2 ⟨h2,⟨hf,rfl⟩|⟨KA,kx,x,hf,hp,hk,rfl⟩⟩
 .rw[hf] at hm;cases hm;exact⟨_,_,_,rfl,λ_=>False,aW rfl ⟨⟨_,rfl⟩,dD.aI (h2.p1.right)⟩,λ_ _ h=>h.elim⟩
 .rw[hf] at hm;dsimp only at hm;split at hm
  .cases hm
  rename_i ht;cases hm;obtain⟨rM,L,R,cV,hx,h3,cl⟩:=SO.at h2 hp;rw[hk] at cV;cases cV;obtain⟨_,h4⟩:=eD.aK h3;have hi:=hx.bm.1;have hr:=hx.t1;refine⟨_,_,_,rfl,λw'=>w'=w2,aw rfl<|aw rfl<|aq<|lY (by decide) (by decide)<|az (n:=x.t1) (by rw[Sp.jG];exact aB h4 (i:=19) (Bn hi))<|aw (by simpa using ht) rfl,?_⟩;rintro _ _ rfl;have h5:=h4.drew;refine aq<|lY (by decide) (by decide)<|az (n:=x.t1) (by rw[Sp.jG];exact aB h5 (i:=19) (Bn hi))<|gX (by omega) (by omega)<|aq<|lY (by decide) (by decide) ?_;have e:(((aD kx).add 18).add ((1:Int).toNat*1))=⟨kx,19,none⟩:=by rw[du,du];rfl
  rw[e];refine bD (i:=19) h5 (by rw[Dg hi];decide) λw4 h6=> ?_;have h6:V O (ab kx (iU {x with t1:=x.t1- 1} L.1) 327*(hW L.1 L.2 (lk x.cs)*(R*(ab k1 (gA g) 30*F)))) w4:=by rw[<-Qy hi];exact h6
  have h7:=cl {x with t1:=x.t1- 1} L _ w4 (eD.aI ⟨hx.tg,hx.bm,hx.aZ,hx.cs,by dsimp only;omega,hx.t2⟩ h6);refine ay (Kz hp hk h7 ho) ?_;rintro _ w5 ⟨rfl,P',_,h8⟩;exact⟨rfl,⟨_,rfl⟩,dD.aI h8.p1.right⟩
theorem QF (S:AS cC) (t:Int) (bm:aJ):y7 S t bm=((cB S).find? λq=>decide (q.2.x.tg=t)&&decide (q.2.x.bm=bm)).map λq=>(hd q.1 q.2.g,q.2.x):=rfl
theorem aeu {t:Int} {bm:aJ} (hi:mV bm) (h:V O (SO k ox a P S*F) w): ae 341 #[al k,ah t,an (gA bm)] w λv w'=>V O (SO k ox a P S*F) w'/\ ((y7 S t bm=none/\v=ak #[ag none,ah 0])\/∃hn kx x,y7 S t bm=some (hn,x)/\bg S hn=some x/\P hn=some kx/\v=ak #[al kx,ah hn]):=by
 apply XT;have hs:=iO hi.1;have ho:=SO.ok h;refine aG h λk1 w1 h1=>aG h1 λk2 w2 h2=>aG h2 λk3 w3 h3=>aG h3 λk4 w4 h4=> ?_;obtain⟨t3,h4⟩:∃t3,V O (ab k4 #[ah 0] 26*(ab k3 #[ag none] t3*(ab k2 (gA bm) 30*(ab k1 #[ah t] 26*(SO k ox a P S*F))))) w4:=⟨_,h4⟩;have h5:=SO.b (h4.p4);refine aq<|bh (aB h5 (i:=1) rfl)<|ay (nW.all h4) ?_;rintro _ w5 ⟨kk,tt,rfl,h6⟩;let p:Nat×bK cC->Bool:=λq=>decide (q.2.x.tg=t)&&decide (q.2.x.bm=bm);let Q:Int->av->HP:=λn b=>ab kk #[al a] tt*(ab k4 #[ah n] 26*(ab k3 #[ag b] t3*(ab k2 (gA bm) 30*(ab k1 #[ah t] 26*(SO k ox a P S*F)))));refine i6<|j7 ⟨O,_,_,(cB S).map λq=>#[ah (hd q.1 q.2.g),qy (P (hd q.1 q.2.g))],λj=>bM (((cB S).take j).find? p=none)*Q 0 none,λc=>ex λq=>bM (c=.ret/\(cB S).find? p=some q)*Q (hd q.1 q.2.g) ((P (hd q.1 q.2.g)).map λk=>(aD k)),rfl,nW.body,V.eL (by simp) h6,?_,PA.Bp (OH:=eD) (z:=mD) nW (λw h=>h.right.left) (λw h=> ?_),?_,?_,?_⟩
 .intro x hx;obtain⟨q,_,rfl⟩:=fC.1 hx;rfl
 .exact(SO.p (h.right.aF (B:=SO k ox a P S*(ab kk #[al a] tt*(ab k4 #[ah 0] 26*(ab k3 #[ag none] t3*(ab k2 (gA bm) 30*(ab k1 #[ah t] 26*F)))))) (by dsimp only[Q];ac_rfl))).left
 .intro j x hx G G' T w6 hT h7;obtain⟨q,hq,rfl⟩:=tw hx;have hp:=xE ho hq;refine⟨_,_,rfl,hT _ _ _ h7 λw7 h8=> ?_⟩;have h8:V O (bM (((cB S).take j).find? p=none)*(Q 0 none*G')) w7:=h8.a;have mA:=h8.bM;have h9:V O (SO k ox a P S*(ab kk #[al a] tt*(ab k4 #[ah 0] 26*(ab k3 #[ag none] t3*(ab k2 (gA bm) 30*(ab k1 #[ah t] 26*(F*G'))))))) w7.drew:=h8.right.drew.aF (by dsimp only[Q];ac_rfl);obtain⟨kx,L,R,hk,gY,aV,cl⟩:=SO.at h9 hp;obtain⟨_,bu⟩:=eD.aK aV;have oL:=gY.bm.1;have Dm:p q=false->V O (bM (((cB S).take (j+1)).find? p=none)*Q 0 none*G') w7.drew:=λKG=>(V.eL (KB mA hq KG) h8.right.drew).g1;have c1:w7.drew.cell? (aD k1)=some (ah t):=(h9.p5).left.cell (i:=0) rfl;rw[hk];refine aq<|az (n:=q.2.x.tg) (aB bu Bm)<|az (n:=t) c1<|cy (λht=> ?_) (λht=> ?_)
  .have ht:q.2.x.tg=t:=by simpa using ht
   have Cy:=h9.p4;refine aq<|ff (n:=16) bu (by rw[Dg oL];decide) ?_;rw[Qx oL];refine bz Cy hs<|AD oL hi.1 ?_;by_cases he:q.2.x.bm=bm
   .rw[decide_eq_true he];have bA:=h9.p2.p3;refine aW rfl<|bD (i:=0) bA (by simp) λw8 bN=>bD (i:=0) bN.p1 (by simp) λw9 bY=> ?_;have z9:p q=true:=by simp[p,ht,he]
    refine(V.bO q (V.eL (p:=Code.ret=Code.ret/\(cB S).find? p=some q) ⟨rfl,KC mA hq z9⟩ (bY.aF (B:=Q (hd q.1 q.2.g) (aU kx)*G') ?_)|>.aF ?_))
    .dsimp only[Q];show ab k4 #[ah (hd q.1 q.2.g)] 26*(ab k3 #[al kx] t3*_)=_;ac_rfl
    .rw[hk];exact(vC _ _ _).symm
   .rw[decide_eq_false he];exact aw rfl (Dm (by simp[p,he]))
  .have ht:q.2.x.tg≠t:=by simpa using ht
   exact Dm (by simp[p,ht])
 .intro D w6 h7;rw[fk] at h7;have h7:=h7.aF (B:=bM (((cB S).take (cB S).length).find? p=none)*(ab k3 #[ag none] t3*(ab k4 #[ah 0] 26*(fw D*(ab kk #[al a] tt*(ab k2 (gA bm) 30*(ab k1 #[ah t] 26*(SO k ox a P S*F)))))))) (by dsimp only[Q];ac_rfl);have mA:=KD h7.bM;refine bD (i:=0) h7.right (by simp) λw7 h8=>bD (i:=0) h8.p1 (by simp) λw8 h9=> ?_;have h9:V O (ab k4 #[ah 0] 26*(ab k3 #[ag none] t3*(fw D*(ab kk #[al a] tt*(ab k2 (gA bm) 30*(ab k1 #[ah t] 26*(SO k ox a P S*F))))))) w8:=h9;refine iL (h9.p2) λw9 aV=>bh (aV.right.left.cell (i:=0) rfl)<|az (n:=0) (aV.left.cell (i:=0) rfl) ⟨?_,.inl ⟨by rw[QF,mA];rfl,rfl⟩⟩;exact(aV.g4).right
 .intro D c w6 h7;obtain⟨q,h7⟩:=V.ex h7.e1;have h7:=h7.aF (B:=bM (c=.ret/\(cB S).find? p=some q)*(Q (hd q.1 q.2.g) ((P (hd q.1 q.2.g)).map λk=>(aD k))*fw D)) (vC _ _ _);obtain⟨rfl,hf⟩:=h7.bM;obtain⟨j,hj⟩:=sa.1 (List.mem_of_find?_eq_some hf);have hp:=xE ho hj;have h8:=h7.right.aF (B:=ab k4 #[ah (hd q.1 q.2.g)] 26*(ab k3 #[ag ((P (hd q.1 q.2.g)).map λk=>(aD k))] t3*(fw D*(ab kk #[al a] tt*(ab k2 (gA bm) 30*(ab k1 #[ah t] 26*(SO k ox a P S*F))))))) (by dsimp only[Q];ac_rfl);refine yB<|iL h8.p2 λw9 aV=>bh (aV.right.left.cell (i:=0) rfl)<|az (n:=hd q.1 q.2.g) (aV.left.cell (i:=0) rfl) ?_;have bu:=(aV.g4).right;obtain⟨kx,L,R,hk,_⟩:=SO.at bu hp;refine⟨bu,.inr ⟨_,kx,q.2.x,by rw[QF,hf];rfl,hp,hk,?_⟩⟩;rw[hk];rfl
end
section
variable {O w:ao} {F:HP} {k a kx:Nat} {ox:Int} {P:iS} {S:AS cC} {x:cC} {L:Nat×Nat}
theorem QG (S:AS cC) (t:Int):j1 S t=((cB S).find? λq=>decide (q.2.x.tg=t)&&Da q.2.x).isSome:=KE (λx:cC=>decide (x.tg=t)&&Da x) S.sp 0
theorem KH (x:cC):Da x=(decide (0<ma x.cs)||decide (0<x.t1)):=rfl
theorem QH {t:Int} (h:V O (SO k ox a P S*F) w): ae 167 #[al k,ah t] w λv w'=>v=aC (j1 S t)/\V O (SO k ox a P S*F) w':=by
 apply XG;have ho:=SO.ok h;refine aG h λk1 w1 h1=>aG h1 λk2 w2 h2=>aw rfl ?_;have h5:=SO.b (h2.p2);refine aq<|bh (aB h5 (i:=1) rfl)<|ay (nW.all h2) ?_;rintro _ w5 ⟨kk,tt,rfl,h6⟩;let p:Nat×bK cC->Bool:=λq=>decide (q.2.x.tg=t)&&Da q.2.x;let Q:Bool->HP:=λb=>ab kk #[al a] tt*(ab k2 #[aC b] 4*(ab k1 #[ah t] 26*(SO k ox a P S*F)));refine i6<|j7 ⟨O,_,_,(cB S).map λq=>#[ah (hd q.1 q.2.g),qy (P (hd q.1 q.2.g))],λj=>bM (((cB S).take j).find? p=none)*Q false,λc=>ex λq=>bM (c=.ret/\(cB S).find? p=some q)*Q true,rfl,nW.body,V.eL (by simp) h6,?_,PA.Bp (OH:=eD) (z:=mD) nW (λw h=>h.right.left) (λw h=> ?_),?_,?_,?_⟩
 .intro x hx;obtain⟨q,_,rfl⟩:=fC.1 hx;rfl
 .exact(SO.p (h.right.aF (B:=SO k ox a P S*(ab kk #[al a] tt*(ab k2 #[aC false] 4*(ab k1 #[ah t] 26*F)))) (by dsimp only[Q];ac_rfl))).left
 .intro j x hx G G' T w6 hT h7;obtain⟨q,hq,rfl⟩:=tw hx;have hp:=xE ho hq;refine⟨_,_,rfl,hT _ _ _ h7 λw7 h8=> ?_⟩;have h8:V O (bM (((cB S).take j).find? p=none)*(Q false*G')) w7:=h8.a;have mA:=h8.bM;have h9:V O (SO k ox a P S*(ab kk #[al a] tt*(ab k2 #[aC false] 4*(ab k1 #[ah t] 26*(F*G'))))) w7.drew:=h8.right.drew.aF (by dsimp only[Q];ac_rfl);obtain⟨kx,L,R,hk,gY,aV,cl⟩:=SO.at h9 hp;obtain⟨_,bu⟩:=eD.aK aV;have oL:=gY.bm.1;have Dm:∀{w},p q=false->V O (SO k ox a P S*(ab kk #[al a] tt*(ab k2 #[aC false] 4*(ab k1 #[ah t] 26*(F*G'))))) w->V O (bM (((cB S).take (j+1)).find? p=none)*Q false*G') w:=λKG h=>(V.eL (KB mA hq KG) (h.aF (B:=Q false*G') (by dsimp only[Q];ac_rfl))).g1;have stop:∀{w},p q=true->V O (SO k ox a P S*(ab kk #[al a] tt*(ab k2 #[aC false] 4*(ab k1 #[ah t] 26*(F*G'))))) w->st (aD k2) (aC true) w λw8=>V O ((ex λq=>bM (Code.ret=Code.ret/\(cB S).find? p=some q)*Q true)*G') w8:=by intro w z9 h;refine bD (i:=0) (h.p1.p2) (by simp) λw8 bN=> ?_;refine V.bO q ((V.eL (p:=Code.ret=Code.ret/\(cB S).find? p=some q) ⟨rfl,KC mA hq z9⟩ (bN.aF (B:=Q true*G') ?_)).g1);dsimp only[Q];show ab k2 #[aC true] 4*_=_;ac_rfl
  have c1:w7.drew.cell? (aD k1)=some (ah t):=(h9.p3).left.cell (i:=0) rfl;rw[hk];refine aq<|az (n:=q.2.x.tg) (aB bu Bm)<|az (n:=t) c1<|cy (λht=> ?_) (λht=> ?_)
  .have ht:q.2.x.tg=t:=by simpa using ht
   refine aq<|bh (aB bu (xD oL))<|ay (PR gY.aZ (λp hp=>by have:=gY.cs p hp;omega) bu.p1) ?_;rintro _ w8 ⟨rfl,bA⟩;have bN:=bA.p1;have bY:=cl q.2.x L _ w8 (eD.aI gY bN);rw[JU hp ho] at bY;refine bI<|bU (λhg=> ?_) (λhg=>aq<|lY (by decide) (by decide)<|az (n:=q.2.x.t1) (by rw[Sp.jG];exact aB bN (i:=19) (Bn oL))<|bU (λfq=> ?_) (λfq=> ?_))
   .have hg:0<ma q.2.x.cs:=hg;exact stop (by simp[p,ht,KH,hg]) bY
   .have fq:0<q.2.x.t1:=fq;exact stop (by simp[p,ht,KH,fq]) bY
   .have e1:¬0<ma q.2.x.cs:=hg;have e2:¬0<q.2.x.t1:=fq;exact Dm (by simp only[p,KH,decide_eq_false e1,decide_eq_false e2,Bool.or_false,Bool.and_false]) bY
  .have ht:q.2.x.tg≠t:=by simpa using ht
   exact Dm (by simp[p,ht]) h9
 .intro D w6 h7;rw[fk] at h7;have h7:=h7.aF (B:=bM (((cB S).take (cB S).length).find? p=none)*(ab k2 #[aC false] 4*(fw D*(ab kk #[al a] tt*(ab k1 #[ah t] 26*(SO k ox a P S*F)))))) (by dsimp only[Q];ac_rfl);have mA:=KD h7.bM;refine bD (i:=0) h7.right (by simp) λw7 h8=> ?_;have h8:V O (ab k2 #[aC false] 4*(fw D*(ab kk #[al a] tt*(ab k1 #[ah t] 26*(SO k ox a P S*F))))) w7:=h8;refine iL h8.p1 λw9 aV=>gQ (aV.left.cell (i:=0) rfl) ⟨by rw[QG,mA];rfl,aV.right.right.right⟩
 .intro D c w6 h7;obtain⟨q,h7⟩:=V.ex h7.e1;have h7:=h7.aF (B:=bM (c=.ret/\(cB S).find? p=some q)*(Q true*fw D)) (vC _ _ _);obtain⟨rfl,hf⟩:=h7.bM;have h8:=h7.right.aF (B:=fw D*(ab k2 #[aC true] 4*(ab kk #[al a] tt*(ab k1 #[ah t] 26*(SO k ox a P S*F))))) (by dsimp only[Q];ac_rfl);refine yB<|iL h8 λw9 aV=>gQ (aV.left.cell (i:=0) rfl) ⟨by rw[QG,hf];rfl,aV.right.right.right⟩
def KI (x:cC) (fl:Int):cC:=if fl=1 then{x with t1:=x.t1+1} else{x with t2:=x.t2+1}
theorem aev {fl:Int} (iQ:fl=1\/fl=2) (hb:if fl=1 then x.t1<1000000 else x.t2<1000000) (h:V O (eD kx x L*F) w): ae 344 #[al kx,aH fl] w λv w'=>v=aa 0/\V O (eD kx (KI x fl) L*F) w':=by
 apply XU;obtain⟨hx,h1⟩:=eD.aK h;have hi:=hx.bm.1;have hd:=h1.drew;have r1:=hx.t1;have r2:=hx.t2;rcases iQ with rfl|rfl
 .rw[if_pos rfl] at hb;refine aq<|lY (by decide) (by decide)<|az (n:=x.t1) (by rw[Sp.jG];exact aB h1 (i:=19) (Bn hi))<|aw (by simp;omega)<|aq<|lY (by decide) (by decide)<|az (n:=x.t1) (by rw[Sp.jG];exact aB hd (i:=19) (Bn hi))<|gX (by omega) (by omega)<|aq<|lY (by decide) (by decide) ?_;have e:(((aD kx).add 18).add ((1:Int).toNat*1))=⟨kx,19,none⟩:=by rw[du,du];rfl
  rw[e];refine bD (i:=19) hd (by rw[Dg hi];decide) λw4 h6=>⟨rfl,?_⟩;have h6:V O (ab kx (iU {x with t1:=x.t1+1} L.1) 327*(hW L.1 L.2 (lk x.cs)*F)) w4:=by rw[<-Qy hi];exact h6
  exact eD.aI (x:={x with t1:=x.t1+1}) ⟨hx.tg,hx.bm,hx.aZ,hx.cs,by dsimp only;omega,hx.t2⟩ h6
 .rw[if_neg (by decide)] at hb;refine aq<|lY (by decide) (by decide)<|az (n:=x.t2) (by rw[Sp.jG];exact aB h1 (i:=20) (Ky hi))<|aw (by simp;omega)<|aq<|lY (by decide) (by decide)<|az (n:=x.t2) (by rw[Sp.jG];exact aB hd (i:=20) (Ky hi))<|gX (by omega) (by omega)<|aq<|lY (by decide) (by decide) ?_;have e:(((aD kx).add 18).add ((2:Int).toNat*1))=⟨kx,20,none⟩:=by rw[du,du];rfl
  rw[e];refine bD (i:=20) hd (by rw[Dg hi];decide) λw4 h6=>⟨rfl,?_⟩;have h6:V O (ab kx (iU {x with t2:=x.t2+1} L.1) 327*(hW L.1 L.2 (lk x.cs)*F)) w4:=by rw[<-aem hi];exact h6
  exact eD.aI (x:={x with t2:=x.t2+1}) ⟨hx.tg,hx.bm,hx.aZ,hx.cs,hx.t1,by dsimp only;omega⟩ h6
end
theorem KJ {fl rf t:Int} {bm:aJ}:((((((#[]++#[aH fl])++#[aH rf])++#[ah 0])++#[ah t])++lr)++gA bm)=bF ⟨fl,rf,0,t,dW++bm⟩:=by apply cT;simp[bF,kO,gA,pt,bc,dW,List.replicate]
theorem aew {fl rf ox QI t:Int} {bs:aJ}:(bF ⟨fl,rf,ox,t,bs⟩).setIfInBounds 2 (ah QI)=bF ⟨fl,rf,QI,t,bs⟩:=by apply cT;simp[bF,kO]
theorem aex {fl rf ox t:Int} {a b bm:aJ} (ha:a.length=16):((bF ⟨fl,rf,ox,t,a++bm⟩).toList.take 4++(gA b).toList++(bF ⟨fl,rf,ox,t,a++bm⟩).toList.drop (4+16)).toArray=bF ⟨fl,rf,ox,t,b++bm⟩:=by
 have hl:(bc a).length=16:=by rw[dh,ha]
 have e:(bF ⟨fl,rf,ox,t,a++bm⟩).toList=[aH fl,aH rf,ah ox,ah t]++(bc a++bc bm):=by simp[bF,kO,pt]
 rw[e];have e4:List.take 4 ([aH fl,aH rf,ah ox,ah t]++(bc a++bc bm))=[aH fl,aH rf,ah ox,ah t]:=rfl;rw[e4,ub];have e2:List.drop (4+16) [aH fl,aH rf,ah ox,ah t]=[]:=rfl;have e3:(4+16- [aH fl,aH rf,ah ox,ah t].length)=16:=rfl;rw[e2,e3,Ci hl];apply cT;simp[bF,kO,gA,pt]
theorem aey {t:Int} {bm:aJ} {kt:Nat}:((((#[]++#[ah t])++gA bm)++#[al kt])++#[aH 0,aH 0,aH 0])=iU ⟨t,bm,[],0,0⟩ kt:=by apply cT;simp[iU,zb,Gw,gA]
theorem aez (n:Int):mV (lA n):=by refine⟨rfl,λb hb=> ?_⟩;simp only[lA,pa,Cf,or_false] at hb;omega
section
variable {O w:ao} {F:HP} {k a kx:Nat} {ox:Int} {P:iS} {S:AS cC} {x:cC} {L:Nat×Nat}
theorem aeA {t fl rf db:Int} {bm:aJ} {S':AS cC} {o:OR} (hi:mV bm) (h:V O (dD k ox S*F) w) (hm:Gg S ox t bm fl rf db=some (S',o)): ae 283 #[al k,ah t,an (gA bm),aH fl,aH rf,ah db] w λv w'=>v=ak #[an (bF o.1),aa 0]/\V O (dD k ox S'*F) w':=by
 obtain⟨a,P,h⟩:=dD.aK h;have ho:=SO.ok h;apply XO;have hs:=iO hi.1;unfold Gg at hm;split at hm
 .cases hm
 rename_i cA;have cA:y9 fl rf=true:=by simpa using cA
 split at hm
 .cases hm
 rename_i bt;obtain⟨x',gY,hm⟩:=bZ.1 hm;obtain⟨o',sj,hm⟩:=dd.1 hm;simp only[Prod.mk.injEq] at hm;obtain⟨lV,rfl⟩:=hm;subst lV;unfold Qq at sj;split at sj;case isFalse=>cases sj
 rename_i dV;cases sj;have iQ:0<=fl/\fl<=4294967295:=dV.fl;have te:0<=rf/\rf<=4294967295:=dV.rf;have FC:0<=t/\t<=18446744073709551615:=dV.dy;have Gy:jV ⟨fl,rf,0,t,dW++bm⟩:=⟨iQ,te,⟨Int.le_refl 0,show(0:Int)<=18446744073709551615 by decide⟩,FC,by simp[dW,hi.1],λb hb=>(fj.1 hb).elim (λh=>by rw[dW,List.mem_replicate] at h;omega) (hi.2 b)⟩;have Bq:∀{x:gv},jV x->(bF x).size=36:=dq;have QJ:∀(x:gv),∀u∈(bF x).toList,u.oneCell'=true:=λx u hu=>by
  simp only[bF,kO] at hu;rcases fj.1 hu with hu|hu
  .simp at hu;rcases hu with rfl|rfl|rfl|rfl<;>rfl
  .exact jt _ u hu
 refine aG h λk1 w1 h1=>aG h1 λk2 w2 h2=>bz h2.p1 hs ⟨hs,aG h2 λk4 w3 h3=>bL h3 rfl (by rw[KJ];exact Bq Gy) (by rw[KJ];exact QJ _) λw4 h4=> ?_⟩;have h4:V O (ab k4 (bF ⟨fl,rf,0,t,dW++bm⟩) 164*(ab k2 (bF ⟨0,0,0,0,dW++dW⟩) 164*(ab k1 (gA bm) 30*(SO k ox a P S*F)))) w4:=by rw[<-KJ];exact h4
 refine aw rfl<|bz h4 (Bq Gy)<|ay (At h4 Gy) ?_;rintro _ w6 ⟨rfl,h6⟩;have KK:i9 ⟨fl,rf,0,t,dW++bm⟩=true:=cA;rw[KK];have QK:=h6.p3;refine bI<|aw rfl<|bz (QK.p3) hs<|ay (aeu hi QK) ?_;rintro v11 w8 ⟨h8,hv⟩;have QL:∀q,y7 S t bm=some q->tI S t bm=(S,q.1,q.2,0):=λq hq=>by rw[tI,hq]
 have hpN:y7 S t bm=none->tI S t bm=((put S ⟨t,bm,[],0,0⟩).1,(put S ⟨t,bm,[],0,0⟩).2.1,⟨t,bm,[],0,0⟩,(put S ⟨t,bm,[],0,0⟩).2.2):=λhq=>by rw[tI,hq]
 have bt:(tI S t bm).2.2.2=0:=by simpa using bt
 generalize tI S t bm=p at*;let W:HP:=ab k4 (bF ⟨fl,rf,0,t,dW++bm⟩) 164*(ab k2 (bF ⟨0,0,0,0,dW++dW⟩) 164*(ab k1 (gA bm) 30*F));have main:∃(Dn:av) (xG:Int),v11=ak #[ag Dn,ah xG]/\((Dn=none/\y7 S t bm=none)\/∃kx,Dn=some (aD kx)/\p=(S,xG,p.2.2.1,0)/\bg S xG=some p.2.2.1/\P xG=some kx):=by
  rcases hv with⟨hn,rfl⟩|⟨hn,kx,x,hf,hp,hk,rfl⟩
  .exact⟨none,0,rfl,.inl ⟨rfl,hn⟩⟩
  .refine⟨_,_,rfl,.inr ⟨kx,rfl,?_,?_,hk⟩⟩
   .rw[QL _ hf]
   .rw[QL _ hf];exact hp
 obtain⟨Dn,xG,rfl,hc⟩:=main;refine⟨Dn,xG,rfl,λpp n w=>n=p.2.1/\∃P' kx,pp=some (aD kx)/\bg p.1 n=some p.2.2.1/\P' n=some kx/\V O (SO k ox a P' p.1*W) w,?_,?_⟩
 .rcases hc with⟨rfl,hn⟩|⟨kx,rfl,Br,hp,hk⟩
  .have Br:p=((put S ⟨t,bm,[],0,0⟩).1,(put S ⟨t,bm,[],0,0⟩).2.1,⟨t,bm,[],0,0⟩,(put S ⟨t,bm,[],0,0⟩).2.2):=hpN hn;have he:(put S ⟨t,bm,[],0,0⟩).2.2=0:=by rw[Br] at bt;exact bt
   have h9:=h8.drew;refine aW rfl<|bz (h9.p3) hs<|ay (adl h9) ?_;rintro _ w9 ⟨kt,rt,rfl,aV⟩;have bu:=aV.p4;refine⟨_,rfl,IP bu ⟨hs,aG bu λnr dn bA=> ?_⟩⟩;rw[aey] at bA;have dk:rL ⟨t,bm,[],0,0⟩:=⟨FC,hi,by simp,by simp,by simp,by simp⟩;have bN:=eD.aI (L:=(kt,rt)) (F:=SO k ox a P S*W) dk (bA.aF (B:=ab nr (iU ⟨t,bm,[],0,0⟩ kt) 327*(hW kt rt (lk [])*(SO k ox a P S*W))) (by dsimp only[W];show ab nr (iU ⟨t,bm,[],0,0⟩ kt) 327*(ab k1 (gA bm) 30*(hW kt rt (lk [])*_))=_;ac_rfl));have bY:=SO.b bN.p1;refine aq<|bh (aB bY (i:=1) rfl)<|ay (PA.F8 nW (bY.p1.p2)) ?_;rintro _ dP ⟨rfl,⟨_,cE⟩|⟨cp,_⟩⟩
   .rw[he];refine⟨_,_,rfl,aw rfl ?_⟩;rw[Br];exact⟨rfl,_,nr,rfl,by dsimp only;rw[qx ho he,if_pos rfl],by simp[qz],SO.jK cE⟩
   .exact absurd he cp
  .refine aw rfl ⟨by rw[Br],P,kx,rfl,?_,hk,?_⟩
   .rw[Br];exact hp
   .rw[Br];exact h8
 .rintro _ p26 QM fZ ⟨rfl,P',kx,rfl,hp,hk,bN⟩;have Cu:=SO.ok bN;obtain⟨rM,L,R,cV,hx,bY,cl⟩:=SO.at bN hp;rw[hk] at cV;cases cV;obtain⟨_,cE⟩:=eD.aK bY;have oL:=hx.bm.1;refine⟨λn w=>n=0/\V O (SO k ox a P' (cF p.1 p.2.1 x')*W) w,?_,?_⟩
  .refine cy (λh0=> ?_) (λh0=> ?_)
   .have h0:fl=0:=by simpa using h0
    rw[J7,if_pos h0] at gY;split at gY;case isFalse=>cases gY
    rename_i aQ;obtain⟨cs,dT,rfl⟩:=dd.1 gY;have hr:=Dj hx db;have hl:=Di p.2.2.1.cs db hx.aZ;refine aq<|bh (aB cE (xD oL))<|ay (Ps (key:=db) (n:=rf) cE.p1 (by omega) te.1 (by omega)) ?_;rintro _ dH ⟨rfl,df⟩;rw[hl,(Bo dT).1] at df;exact⟨_,_,rfl,rfl,cl {p.2.2.1 with cs:=cs} L _ dH (eD.aI (hx.Dk dT (by omega)) df.p1)⟩
   .have h0:fl≠0:=by simpa using h0
    rw[J7,if_neg h0] at gY;have aeC:fl=1\/fl=2:=by simp only[y9,m6,decide_eq_true_eq] at cA;omega
    have hb:(if fl=1 then p.2.2.1.t1<1000000 else p.2.2.1.t2<1000000)/\x'=KI p.2.2.1 fl:=by
     unfold KI;split at gY
     .rename_i h1;split at gY
      .rename_i hb;cases gY;rw[if_pos h1,if_pos h1];exact⟨hb,rfl⟩
      .cases gY
     .rename_i h1;split at gY
      .rename_i hb;cases gY;rw[if_neg h1,if_neg h1];exact⟨hb,rfl⟩
      .cases gY
    refine ay (aev aeC hb.1 bY) ?_;rintro _ dH ⟨rfl,df⟩;rw[hb.2];exact bI ⟨rfl,cl _ L _ dH df⟩
  .rintro _ n37 nM ⟨rfl,dZ⟩;have fO:=dZ.drew;have fq:=SO.b fO;refine aw rfl<|aq<|az (n:=ox) (aB fq (i:=0) rfl)<|ay (IQ fq) ?_;rintro _ nL ⟨rfl,jd⟩;have my:=(SO.jK jd.p1).aF (B:=ab k4 (bF ⟨fl,rf,0,t,dW++bm⟩) 164*(SO k ox a P' (cF p.1 p.2.1 x')*(ab k2 (bF ⟨0,0,0,0,dW++dW⟩) 164*(ab k1 (gA bm) 30*F)))) (by dsimp only[W];ac_rfl);refine nI ⟨aB jd (i:=0) rfl,bD (i:=2) my (by rw[Bq Gy];decide) λrp oN=> ?_⟩;rw[aew] at oN;refine As (o:=4) (n:=16) oN (by show 4+16<=(bF ⟨fl,rf,ox,t,dW++bm⟩).size;simp[bF,kO,dh,dW,hi.1]) (iO rfl) (λu hu=>jt _ u (by simpa[gA] using hu)) λqt qf=> ?_;rw[aex (by simp[dW])] at qf;refine bz qf (Bq dV)<|bL qf.p2 rfl (Bq dV) (QJ _) λtr rq=>bz rq (Bq dV) ⟨rfl,dD.aI (a:=a) (P:=P') ?_⟩;exact(rq.p3.p2.p2.g2).right
end
theorem Gz {α:Type} {S:AS α} (hs:bx S) {i j:Nat} {q r:Nat×bK α} (hi:(cB S)[i]?=some q) (hj:(cB S)[j]?=some r) (cp:i≠j):hd q.1 q.2.g≠hd r.1 r.2.g:=by
 intro e;obtain⟨h1,_⟩:=uL q (dF hi);obtain⟨h2,_⟩:=uL r (dF hj);have he:=(yR (tx hs h1) (tx hs h2) e).1;have hn:=JN S.sp 0;have a1:((cB S).map (·.1))[i]?=some q.1:=by rw[eZ,hi];rfl
 have a2:((cB S).map (·.1))[j]?=some q.1:=by rw[eZ,hj,he];rfl
 exact cp ((List.getElem?_inj (ct.1 a1).1 hn).1 (a1.trans a2.symm))
section
variable {O w:ao} {F:HP} {k a kx:Nat} {ox:Int} {P:iS} {S:AS cC} {x:cC} {L:Nat×Nat}
theorem QN {y:av} (h:V O F w):ae 70 #[ag y] w λv w'=>∃k t,v=.func (.func 134) #[] #[al k]/\V O (ab k #[ag y] t*F) w':=by apply Xz;exact aG h λk1 w1 h1=>⟨k1,_,rfl,h1⟩
theorem QO {kk tt:Nat} {bG:Nat->HP} (hP:∀w,V O (bG 0) w->V O (ab kk #[al k] tt) w) (hS:∀w,V O (bG 0) w->V O (SO k ox a P S) w) (hR:∀j q,(cB S)[j]?=some q->∀w,V O (bG j) w->∃kx,P (hd q.1 q.2.g)=some kx/\w.cell? ((aD kx).add 0)=some (ah q.2.x.tg)): iD au O 134 #[al kk] bG ((cB S).map λq=>#[an (gA (lA (hd q.1 q.2.g))),ah q.2.x.tg]):=by
 intro f b c B Bx cA hB hy F w h;show ae _ #[.func f b c,al kk] w _;apply NW;refine aG h λk1 w1 h1=> ?_;obtain⟨t1,h1⟩:∃t1,V O (ab k1 #[.func f b c] t1*(B 0*F)) w1:=⟨_,h1⟩;have hp:=hP _ (hB 0 _ h1.right.left);have hs:=SO.b (hS _ (hB 0 _ h1.right.left)).cQ.e1;refine bh (hp.cell (i:=0) rfl)<|aw rfl<|bh (hp.cell (i:=0) rfl)<|aq<|bh (aB hs (i:=1) rfl)<|ay (nW.all h1) ?_;rintro _ w4 ⟨k2,t2,rfl,h4⟩;refine i6<|j7 ⟨O,_,_,(cB S).map λq=>#[ah (hd q.1 q.2.g),qy (P (hd q.1 q.2.g))],λj=>ab k2 #[al a] t2*(ab k1 #[.func f b c] t1*(B j*F)),λc=>bM (c=.ret)*(Bx*F),rfl,nW.body,h4,?_,PA.Bp (OH:=eD) (z:=mD) nW (λw h=>h.left) (λw h=>(SO.p (hS _ (hB 0 _ h.right.right.left)).cQ.e1).left),?_,?_,?_⟩
 .intro x hx;obtain⟨q,_,rfl⟩:=fC.1 hx;rfl
 .intro j x hx G G' T w5 hT h5;obtain⟨q,hq,rfl⟩:=tw hx;refine⟨_,_,rfl,hT _ _ _ h5 λw8 h8=> ?_⟩;have h9:V O (ab k1 #[.func f b c] t1*(ab k2 #[al a] t2*(B j*(F*G')))) w8.drew:=h8.drew.aF (by dsimp only;ac_rfl);obtain⟨kx,hk,hc⟩:=hR j q hq _ (hB j _ h9.right.right.left);rw[hk];refine Fm (h9.left.cell (i:=0) rfl)<|aq<|az hc<|ay (IQ h9) ?_;rintro _ w9 ⟨rfl,aV⟩;obtain⟨rM,cV,Qj⟩:=hR j q hq _ (hB j _ aV.right.right.left);rw[hk] at cV;cases cV;refine nI ⟨Qj,aV.left.cell (i:=0) rfl,nH (hy j _ (by rw[eZ,hq];rfl) (ab k1 #[.func f b c] t1*(ab k2 #[al a] t2*(F*G'))) _ (aV.p2)) ?_⟩;rintro v w9 (⟨rfl,bu⟩|⟨rfl,bu⟩)
  .exact cR<|aw rfl<|bu.aF (by dsimp only;ac_rfl)
  .exact cR<|aW rfl<|(((bu.aF (B:=(ab k2 #[al a] t2*ab k1 #[.func f b c] t1)*((Bx*F)*G')) (by ac_rfl)).right.eL (p:=Code.ret=Code.ret) rfl).aF (by dsimp only;ac_rfl))
 .intro D w5 h5;rw[fk] at h5 ⊢;exact iL h5 λw' h6=>.inl h6.right.right
 .intro D c w5 h5;have h5:=h5.aF (B:=bM (c=.ret)*(fw D*(Bx*F))) (by dsimp only;ac_rfl);obtain rfl:=h5.bM;exact yB<|iL h5.right λw' h6=>.inr h6
theorem aeD {hn:Int} (ho:bx S) {x':cC} (hp:bg S hn=some x):bx (lJ S hn x')/\∀y,y≠hn->bg (lJ S hn x') y=bg S y:=by
 unfold lJ;split
 .exact⟨ho.up,λy hy=>by rw[nS ho hp,if_neg hy]⟩
 .exact⟨ho.rm hn,λy hy=>by rw[show(cI mD S hn).1=gz mD S hn from rfl,yU ho hp,if_neg hy]⟩
def oS (t:Int) (s:AS cC) (q:Nat×bK cC):AS cC:=if q.2.x.tg=t then(cI mD s (hd q.1 q.2.g)).1 else s
theorem KL (ho:bx S) (t:Int):∀j,j<=(cB S).length->bx (((cB S).take j).foldl (oS t) S)/\∀i q,j<=i->(cB S)[i]?=some q->bg (((cB S).take j).foldl (oS t) S) (hd q.1 q.2.g)=some q.2.x
 |0,_=>⟨ho,λi q _ hq=>xE ho hq⟩
 |j+1,hj=>by
  obtain⟨h1,h2⟩:=KL ho t j (by omega);have aQ:j<(cB S).length:=by omega
  have hq:(cB S)[j]?=some (cB S)[j]:=by simp[aQ]
  rw[fV,hq];simp only[Cc,EJ,o0,Ck];have hp:=h2 j _ (eJ _) hq;show bx (if(cB S)[j].2.x.tg=t then(cI mD (((cB S).take j).foldl (oS t) S) (hd (cB S)[j].1 (cB S)[j].2.g)).1 else((cB S).take j).foldl (oS t) S)/\∀i q,j+1<=i->(cB S)[i]?=some q->bg (if(cB S)[j].2.x.tg=t then(cI mD (((cB S).take j).foldl (oS t) S) (hd (cB S)[j].1 (cB S)[j].2.g)).1 else((cB S).take j).foldl (oS t) S) (hd q.1 q.2.g)=some q.2.x;split
  .refine⟨h1.rm _,λi r hi hr=> ?_⟩;rw[show(cI mD (((cB S).take j).foldl (oS t) S) (hd (cB S)[j].1 (cB S)[j].2.g)).1=gz mD (((cB S).take j).foldl (oS t) S) (hd (cB S)[j].1 (cB S)[j].2.g) from rfl,yU h1 hp,if_neg (Gz ho hr hq (by omega))];exact h2 i r (by omega) hr
  .exact⟨h1,λi r hi hr=>h2 i r (by omega) hr⟩
theorem QP {n:Int} (h0:0<=n) (h1:n<=18446744073709551615):vL (lA n)=some n:=by
 have e:ti ((lA n).drop 8)=n:=by simp only[ti,lA,EI,m9,o0,Ck];omega
 rw[vL,e,if_pos rfl]
theorem aeE {t:Int} (h:V O (dD k ox S*F) w): ae 150 #[al k,ah t] w λv w'=>(∃n,v=aa n)/\V O (dD k ox (Qr S t)*F) w':=by
 obtain⟨a,P,h⟩:=dD.aK h;have ho:=SO.ok h;have eB:(cB S).length<=65536:=by
  have:=ho.len;have:=ho.ie;have e:(cB S).length<=S.sp.length:=by rw[JJ];exact List.countP_le_length
  omega
 apply XD;refine aG h λk1 w1 h1=>aG h1 λk2 w2 h2=>aG h2 λk3 w3 h3=>bD (i:=0) h3 (by simp) λw4 h4=> ?_;obtain⟨t1,h4⟩:∃t1,V O (ab k3 #[aa 0] 3*(ab k2 #[ah t] 26*(ab k1 #[al k] t1*(SO k ox a P S*F)))) w4:=⟨_,h4⟩;refine bh (h4.right.right.left.cell (i:=0) rfl)<|ay (QN h4) ?_;rintro _ w5 ⟨kk,tt,rfl,h5⟩;let A:Nat->HP:=λj=>ex λP':iS=>ex λn:Nat=>bM (n<=j/\(j=0->P'=P)/\∀i q,j<=i->(cB S)[i]?=some q->P' (hd q.1 q.2.g)=P (hd q.1 q.2.g))*(ab kk #[al k] tt*(ab k3 #[aa n] 3*(ab k2 #[ah t] 26*(ab k1 #[al k] t1*(SO k ox a P' (((cB S).take j).foldl (oS t) S)*F)))));have uS:∀{j w G},V O (A j*G) w->∃(P':iS) (n:Nat),(n<=j/\(j=0->P'=P)/\∀i q,j<=i->(cB S)[i]?=some q->P' (hd q.1 q.2.g)=P (hd q.1 q.2.g))/\V O (SO k ox a P' (((cB S).take j).foldl (oS t) S)*(ab kk #[al k] tt*(ab k3 #[aa n] 3*(ab k2 #[ah t] 26*(ab k1 #[al k] t1*(F*G)))))) w:=by intro j w G h;obtain⟨P',h⟩:=V.ex h;obtain⟨n,h⟩:=V.ex h;have h:=h.a;exact⟨P',n,h.bM,h.right.aF (by ac_rfl)⟩
 have zc:∀{j w G} (P':iS) (n:Nat),(n<=j/\(j=0->P'=P)/\∀i q,j<=i->(cB S)[i]?=some q->P' (hd q.1 q.2.g)=P (hd q.1 q.2.g))->V O (SO k ox a P' (((cB S).take j).foldl (oS t) S)*(ab kk #[al k] tt*(ab k3 #[aa n] 3*(ab k2 #[ah t] 26*(ab k1 #[al k] t1*(F*G)))))) w->V O (A j*G) w:=by intro j w G P' n hq h;exact V.bO P' (V.bO n ((V.eL hq (h.p4.p4.p4.p4.g5)).g1))
 have Bs:V O (A 0*cW) w5:=zc P 0 ⟨eJ _,λ_=>rfl,λ_ _ _ _=>rfl⟩ (h5.cQ.aF (by show cW*_=SO k ox a P S*_;ac_rfl));have rd:∀{j q w G},(cB S)[j]?=some q->V O (A j*G) w->∃kx,P (hd q.1 q.2.g)=some kx/\w.cell? ((aD kx).add 0)=some (ah q.2.x.tg):=by intro j q w G hq h;obtain⟨P',n,⟨_,_,hP⟩,h⟩:=uS h;have aQ:=(ct.1 hq).1;obtain⟨kx,L,R,hk,_,h6,_⟩:=SO.at h ((KL ho t j (by omega)).2 j q (eJ _) hq);rw[hP j q (eJ _) hq] at hk;exact⟨kx,hk,aB (eD.aK h6).2 Bm⟩
 refine i6<|j7 ⟨O,_,_,(cB S).map λq=>#[an (gA (lA (hd q.1 q.2.g))),ah q.2.x.tg],A,λc=>bM False,rfl,⟨_,_,Tryz.func134,rfl⟩,Bs.left,?_,?_,?_,?_,?_⟩
 .intro x hx;obtain⟨q,_,rfl⟩:=fC.1 hx;rfl
 .refine QO (k:=k) (ox:=ox) (a:=a) (P:=P) (tt:=tt) (λw h=> ?_) (λw h=> ?_) (λj q hq w h=>rd hq h.cQ.e1)
  .obtain⟨P',n,_,h⟩:=uS h.cQ.e1;exact h.right.left
  .obtain⟨P',n,⟨_,hP,_⟩,h⟩:=uS h.cQ.e1;rw[hP rfl] at h;exact h.left
 .intro j x hx G G' T w6 hT h6;obtain⟨q,hq,rfl⟩:=tw hx;have aQ:=(ct.1 hq).1;obtain⟨si,KM⟩:=KL ho t j (by omega);have hp:=KM j q (eJ _) hq;have hr:=ni ho (xE ho hq);refine⟨_,_,rfl,aG h6 λy5 w7 h7=>bL h7 rfl rfl (λu hu=>jt _ u (by simpa[gA] using hu)) λw8 h8=> ?_⟩;have uT:((cB S).take (j+1)).foldl (oS t) S=if q.2.x.tg=t then(cI mD (((cB S).take j).foldl (oS t) S) (hd q.1 q.2.g)).1 else((cB S).take j).foldl (oS t) S:=by rw[fV,hq];simp only[Cc,EJ,o0,Ck];rfl
  refine hT (ab y5 (gA (lA (hd q.1 q.2.g))) 30*A j) _ _ (h8.g1) λw9 h9=> ?_;obtain⟨P',n,⟨hn,_,hP⟩,aV⟩:=uS (h9.a.p1);refine az (n:=t) (aV.right.right.right.left.cell (i:=0) rfl)<|cy (λht=> ?_) (λht=> ?_)
  .have ht:q.2.x.tg=t:=by simpa using ht
   rw[if_pos ht] at uT;have bu:=aV.p6;refine bh (aV.right.right.right.right.left.cell (i:=0) rfl)<|bz bu (iO rfl)<|ay (Dh (aez _) bu.p1) ?_;rintro _ dn ⟨bA,⟨hf,_⟩|⟨KA,kx,x,hf,_,hk,rfl⟩⟩
   .rw[ki,QP (by omega) hr.2,gg,hp] at hf;cases hf
   .rw[ki,QP (by omega) hr.2,gg,hp] at hf;cases hf;refine⟨_,_,_,rfl,bh (bA.right.right.right.right.right.left.cell (i:=0) rfl)<|aq<|bh (aB (SO.b bA) (i:=1) rfl)<|ay (PA.C3 nW (SO.p bA) hp) ?_⟩;rintro _ dP ⟨kd,Ld,rfl,_,bN⟩;have bY:=(SO.jK bN.right).p3;refine⟨_,_,rfl,az (n:=(n:Int)) (bY.left.cell (i:=0) rfl)<|aY (by omega) (by omega)<|bD (i:=0) bY (by simp) λfF cE=>zc (qz P' (hd q.1 q.2.g) none) (n+1) ⟨by omega,by omega,λi r hi hr=> ?_⟩ ?_⟩
    .unfold qz;rw[if_neg (Gz ho hr hq (by omega))];exact hP i r (by omega) hr
    .rw[uT];refine((cE.aF (B:=ab y5 (gA (lA (hd q.1 q.2.g))) 30*(SO k ox a (qz P' (hd q.1 q.2.g) none) (gz mD (((cB S).take j).foldl (oS t) S) (hd q.1 q.2.g))*(ab kk #[al k] tt*(ab k3 #[aa ((n+1:Nat):Int)] 3*(ab k2 #[ah t] 26*(ab k1 #[al k] t1*(F*G'))))))) ?_).right);show ab k3 #[aa ((n:Int)+1)] 3*_=_;have e:(((n+1:Nat):Int))=(n:Int)+1:=by omega
     rw[e];ac_rfl
  .have ht:q.2.x.tg≠t:=by simpa using ht
   rw[if_neg ht] at uT;refine zc P' n ⟨by omega,by omega,λi r hi hr=>hP i r (by omega) hr⟩ ?_;rw[uT];exact(aV.p6).right
 .intro D w6 h6;rw[fk] at h6;obtain⟨P',n,_,h7⟩:=uS h6.e1;rw[j4] at h7;have h8:=h7.aF (B:=fw D*(ab k3 #[aa n] 3*((ab kk #[al k] tt*(ab k2 #[ah t] 26*ab k1 #[al k] t1))*(SO k ox a P' ((cB S).foldl (oS t) S)*F)))) (by ac_rfl);refine az (n:=(n:Int)) (h8.right.left.cell (i:=0) rfl)<|iL h8 λw' h9=>⟨⟨_,rfl⟩,dD.aI h9.right.right⟩
 .intro D c w5 h6;exact(V.nJ h6).elim
end
theorem QQ:∀{l:aJ},Bg l=true->uJ l
 |[],_=>λi x y h=>by simp at h
 |[a],_=>λi x y _ h=>by simp at h
 |a::b::l,h=>by
  simp only[Bg,m6,decide_eq_true_eq] at h;intro i x y h1 h2;cases i with
  |zero=>simp at h1 h2;subst h1 h2;exact h.1
  |succ i=>exact QQ h.2 i x y (by simpa using h1) (by simpa using h2)
def Dp (k:Int) (r:AS cC×aJ) (p:Nat×bK cC):Option (AS cC×aJ):=
 if jg p.2.x.cs k=0 then some r else(sI p.2.x.cs k 0).map λcs=>(lJ r.1 (hd p.1 p.2.g) {p.2.x with cs:=cs},if j1 (lJ r.1 (hd p.1 p.2.g) {p.2.x with cs:=cs}) p.2.x.tg then r.2 else r.2++[p.2.x.tg])
def sJ (S:AS cC) (k:Int) (j:Nat):Option (AS cC×aJ):=((cB S).take j).foldl (λr p=>r.bind λr=>Dp k r p) (some (S,[]))
theorem aeF (S:AS cC) (k:Int):Gs S k=sJ S k (cB S).length:=by rw[sJ,j4];rfl
theorem KN {S:AS cC} {k:Int} {j:Nat} {q:Nat×bK cC} (hq:(cB S)[j]?=some q):sJ S k (j+1)=(sJ S k j).bind λr=>Dp k r q:=by unfold sJ;rw[fV,hq];simp only[Cc,EJ,o0,Ck]
theorem QR {S:AS cC} {k:Int}:∀(n j:Nat),j+n=(cB S).length->(sJ S k (cB S).length).isSome=true->(sJ S k j).isSome=true
 |0,j,h,hs=>by rw[show j=(cB S).length by omega];exact hs
 |n+1,j,h,hs=>by
  have h1:=QR n (j+1) (by omega) hs;have hq:(cB S)[j]?=some ((cB S)[j]'(by omega)):=by simp[show j<(cB S).length by omega]
  rw[KN hq] at h1;cases hj:sJ S k j with
  |none=>rw[hj] at h1;cases h1
  |some _=>rfl
theorem QS {S:AS cC} (ho:bx S) {k:Int}:∀j,j<=(cB S).length->∀r,sJ S k j=some r->bx r.1/\r.2.length<=j/\∀i q,j<=i->(cB S)[i]?=some q->bg r.1 (hd q.1 q.2.g)=some q.2.x
 |0,_,r,hr=>by
  have:(S,[])=r:=by simpa[sJ] using hr
  subst this;exact⟨ho,eJ _,λi q _ hq=>xE ho hq⟩
 |j+1,hj,r,hr=>by
  have aQ:j<(cB S).length:=by omega
  have hq:(cB S)[j]?=some (cB S)[j]:=by simp[aQ]
  rw[KN hq] at hr;obtain⟨r0,Aa,hr⟩:=bZ.1 hr;obtain⟨h1,h2,h3⟩:=QS ho j (by omega) r0 Aa;have hp:=h3 j _ (eJ _) hq;unfold Dp at hr;split at hr
  .cases hr;exact⟨h1,by omega,λi q hi hq=>h3 i q (by omega) hq⟩
  .obtain⟨cs,dT,rfl⟩:=dd.1 hr;obtain⟨k1,k2⟩:=aeD h1 hp (x':={(cB S)[j].2.x with cs:=cs});refine⟨k1,?_,λi q hi QT=> ?_⟩
   .dsimp only;split
    .omega
    .rw[gp,B8];omega
   .rw[k2 _ (Gz ho QT hq (by omega))];exact h3 i q (by omega) QT
section
variable {O w:ao} {F:HP} {k a kx:Nat} {ox:Int} {P:iS} {S:AS cC} {x:cC} {L:Nat×Nat}
theorem aeG {db:Int} {S':AS cC} {out:aJ} (h:V O (dD k ox S*F) w) (hm:Gs S db=some (S',out)) (ha:Bg out=true) (hl:out.length<=12): ae 93 #[al k,ah db] w λv w'=>∃p c,v=af p out.length c/\V O (aE 26 1 bS p out.length c out*(dD k ox S'*F)) w':=by
 obtain⟨a,P,h⟩:=dD.aK h;have ho:=SO.ok h;have eB:(cB S).length<=65536:=by
  have:=ho.len;have:=ho.ie;have e:(cB S).length<=S.sp.length:=by rw[JJ];exact List.countP_le_length
  omega
 rw[aeF] at hm;have aeH:∀j,j<=(cB S).length->∃r,sJ S db j=some r:=λj hj=>Option.isSome_iff_exists.1 (QR ((cB S).length- j) j (by omega) (by rw[hm];rfl));apply XA;refine aG h λk1 w1 h1=>aG h1 λk2 w2 h2=>bh (h2.right.left.cell (i:=0) rfl)<|aw rfl<|aG h2 λk4 w4 h4=> ?_;obtain⟨t1,h4⟩:∃t1,V O (ab k4 #[aP] 25*(ab k2 #[ah db] 26*(ab k1 #[al k] t1*(SO k ox a P S*F)))) w4:=⟨_,h4⟩;have hb:=SO.b (h4.p3);refine bh (h4.right.right.left.cell (i:=0) rfl)<|aq<|bh (aB hb (i:=1) rfl)<|ay (nW.all h4) ?_;rintro _ w5 ⟨kk,tt,rfl,h5⟩;let X:Nat->(AS cC×aJ)->iS->av->Nat->Prop:=λj r P' p c=>sJ S db j=some r/\(j=0->P'=P/\r.1=S)/\∀i q,j<=i->(cB S)[i]?=some q->P' (hd q.1 q.2.g)=P (hd q.1 q.2.g);let A:Nat->HP:=λj=>ex λr:AS cC×aJ=>ex λP':iS=>ex λp:av=>ex λc:Nat=>bM (X j r P' p c)* (ab kk #[al a] tt*(ab k4 #[af p r.2.length c] 25*(aE 26 1 bS p r.2.length c r.2*(ab k2 #[ah db] 26*(ab k1 #[al k] t1*(SO k ox a P' r.1*F))))));have uS:∀{j w G},V O (A j*G) w->∃r P' p c,X j r P' p c/\V O (SO k ox a P' r.1*(ab kk #[al a] tt*(ab k4 #[af p r.2.length c] 25*(aE 26 1 bS p r.2.length c r.2*(ab k2 #[ah db] 26*(ab k1 #[al k] t1*(F*G))))))) w:=by intro j w G h;obtain⟨r,h⟩:=V.ex h;obtain⟨P',h⟩:=V.ex h;obtain⟨p,h⟩:=V.ex h;obtain⟨c,h⟩:=V.ex h;have h:=h.a;exact⟨r,P',p,c,h.bM,h.right.aF (by ac_rfl)⟩
 have zc:∀{j w G} (r:AS cC×aJ) (P':iS) (p:av) (c:Nat),X j r P' p c->V O (SO k ox a P' r.1*(ab kk #[al a] tt*(ab k4 #[af p r.2.length c] 25*(aE 26 1 bS p r.2.length c r.2*(ab k2 #[ah db] 26*(ab k1 #[al k] t1*(F*G))))))) w->V O (A j*G) w:=by intro j w G r P' p c hx h;exact V.bO r (V.bO P' (V.bO p (V.bO c ((V.eL hx (h.p5.p5.p5.p5.p5.g6)).g1))))
 have Bs:V O (A 0*cW) w5:=zc (S,[]) P none 0 ⟨rfl,λ_=>⟨rfl,rfl⟩,λ_ _ _ _=>rfl⟩ ((fE 26 1 bS h5.cQ).aF (by show aE 26 1 bS none 0 0 []*(cW*(ab kk #[al a] tt*(ab k4 #[aP] 25*_)))=SO k ox a P S*(ab kk #[al a] tt*(ab k4 #[aP] 25*(aE 26 1 bS none 0 0 []*_)));ac_rfl));refine i6<|j7 ⟨O,_,_,(cB S).map λq=>#[ah (hd q.1 q.2.g),qy (P (hd q.1 q.2.g))],A,λc=>bM False,rfl,nW.body,Bs.left,?_,PA.Bp (OH:=eD) (z:=mD) (a:=a) (t:=tt) nW (λw h=> ?_) (λw h=> ?_),?_,?_,?_⟩
 .intro x hx;obtain⟨q,_,rfl⟩:=fC.1 hx;rfl
 .obtain⟨r,P',p,c,_,h⟩:=uS h.cQ.e1;exact h.right.left
 .obtain⟨r,P',p,c,⟨_,h0,_⟩,h⟩:=uS h.cQ.e1;rw[(h0 rfl).1,(h0 rfl).2] at h;exact(SO.p h).left
 .intro j x hx G G' T w6 hT h6;obtain⟨q,hq,rfl⟩:=tw hx;have aQ:=(ct.1 hq).1;refine⟨_,_,rfl,hT (A j) _ _ h6 λw9 h9=> ?_⟩;obtain⟨r,P',p,c,⟨hr,_,hP⟩,aV⟩:=uS h9.drew;obtain⟨si,hnj,KM⟩:=QS ho j (by omega) r hr;have hp:=KM j q (eJ _) hq;obtain⟨kx,L,R,hk,hx,bu,cl⟩:=SO.at aV hp;have hkP:=hk;rw[hP j q (eJ _) hq] at hk;have oL:=hx.bm.1;obtain⟨_,bA⟩:=eD.aK bu;have fp:=Dj hx db;have vG:=Di q.2.x.cs db hx.aZ;have uT:=KN (k:=db) hq;rw[hr,gg] at uT;rw[hk];refine aq<|bh (aB bA (xD oL))<|az (n:=db) (aV.right.right.right.right.left.cell (i:=0) rfl)<|ay (JD (key:=db) bA.p1) ?_;rintro _ w7 ⟨rfl,rfl⟩;rw[vG];refine bI<|cy (λh0=> ?_) (λh0=> ?_)
  .have h0:jg q.2.x.cs db=0:=by simpa using h0
   rw[Dp,if_pos h0] at uT;exact zc r P' p c ⟨uT,by omega,λi u hi hu=>hP i u (by omega) hu⟩ aV
  .have h0:jg q.2.x.cs db≠0:=by simpa using h0
   rw[Dp,if_neg h0] at uT;obtain⟨r',GC⟩:=aeH (j+1) (by omega);obtain⟨cs,dT,FU⟩:=dd.1 (uT.symm.trans GC);have bA:=bA.drew;refine aq<|bh (aB bA (xD oL))<|az (n:=db) (aV.drew.right.right.right.right.left.cell (i:=0) rfl)<|ay (JE (key:=db) (n:=jg q.2.x.cs db) bA.p1 (by omega) (by omega)) ?_;rintro _ w8 (⟨oJ,_⟩|⟨bW,rfl,bN⟩)
   .omega
   .rw[vG,show jg q.2.x.cs db- jg q.2.x.cs db=0 by omega,(Bo dT).1] at bN;have bY:=cl {q.2.x with cs:=cs} L _ w8 (eD.aI (hx.Dk dT (by omega)) bN.p1);refine⟨_,_,rfl,bh (bY.right.right.right.right.right.left.cell (i:=0) rfl)<|ay (QA hp hkP bY si) ?_⟩;rintro _ w9 ⟨rfl,P2,kY,D,cE,ng⟩;have cE:=cE.drew;have jH:=ng _ _ cE;refine⟨rfl,bh (cE.right.right.right.right.right.right.left.cell (i:=0) rfl)<|aq<|az (n:=q.2.x.tg) jH<|ay (QH (t:=q.2.x.tg) cE.p1) ?_⟩;rintro _ dn ⟨rfl,df⟩;have fin:∀{w p' c'},r'.2.length=r'.2.length->V O (SO k ox a P2 r'.1*(D*(ab kk #[al a] tt*(ab k4 #[af p' r'.2.length c'] 25*(aE 26 1 bS p' r'.2.length c' r'.2*(ab k2 #[ah db] 26*(ab k1 #[al k] t1*(F*G')))))))) w->V O (A (j+1)*G') w:=by intro w p' c' _ hw;refine zc r' P2 p' c' ⟨GC,by omega,λi u hi hu=> ?_⟩ hw.p1.right;rw[kY _ (Gz ho hu hq (by omega))];exact hP i u (by omega) hu
    have fA:r'.1=lJ r.1 (hd q.1 q.2.g) {q.2.x with cs:=cs}:=by exact(congrArg Prod.fst FU).symm
    have vZ:r'.2=if j1 (lJ r.1 (hd q.1 q.2.g) {q.2.x with cs:=cs}) q.2.x.tg then r.2 else r.2++[q.2.x.tg]:=by exact(congrArg Prod.snd FU).symm
    rw[<-fA] at df vZ ⊢;have ng:∀w G,V O (D*(SO k ox a P2 r'.1*G)) w->w.cell? ((aD kx).add 0)=some (ah q.2.x.tg):=by rw[fA];exact ng
    refine cR<|cy (λhh=> ?_) (λhh=> ?_)
    .have hh:j1 r'.1 q.2.x.tg=false:=by simpa using hh
     rw[hh] at vZ;have vZ:r'.2=r.2++[q.2.x.tg]:=vZ;have dZ:=df.drew.p1.p3;refine aN (dZ.left.cell (i:=0) rfl)<|aq<|az (n:=q.2.x.tg) (ng _ _ (df.drew.p1))<|aG dZ λk37 dP fO=> ?_;refine ju uI gL (by decide) uu (x:=q.2.x.tg) (fO.p5.p1) rfl (by simp only[maxLen];omega) (by omega) λp' c' fF fq=> ?_;refine bD (i:=0) fq.p1 (by simp) λfZ jd=>fin (p':=p') (c':=c') rfl ?_;rw[vZ,gp,B8];exact jd.aF (by show ab k4 #[af p' (r.2.length+1) c'] 25*_=_;ac_rfl)
    .have hh:j1 r'.1 q.2.x.tg=true:=by simpa using hh
     rw[hh] at vZ;have vZ:r'.2=r.2:=vZ;refine fin (p':=p) (c':=c) rfl ?_;rw[vZ];exact df
 .intro D w6 h6;rw[fk] at h6;obtain⟨r,P',p,c,⟨hr,_,_⟩,h7⟩:=uS h6.e1;rw[hm] at hr;cases hr;have h8:=h7.aF (B:=ab k4 #[af p out.length c] 25*(aE 26 1 bS p out.length c out*(fw D*((ab kk #[al a] tt*(ab k2 #[ah db] 26*ab k1 #[al k] t1))*(SO k ox a P' S'*F))))) (by ac_rfl);have QU:=QQ ha;refine aN (h8.left.cell (i:=0) rfl)<|ay (PJ QU hl h8.p1) ?_;rintro _ w7 ⟨rfl,h9⟩;refine⟨rfl,aN (h9.right.left.cell (i:=0) rfl)<|ay (adD QU (by omega) h9) ?_⟩;rintro _ w8 ⟨rfl,aV⟩;refine iE<|iL (aV.p2) λw' bu=>⟨p,c,rfl,?_⟩;have bA:=bu.p2.a.p1.a.p5.p2.p2.p3.p5.g3;exact(dD.aI bA.right).p1
 .intro D c w5 h6;exact(V.nJ h6).elim
end
end Go.Proofs.YtjhnnnfnkjighaaGreatDoor
namespace Go.Proofs.YtjhnnnfnkjighaaGreatDoor.Gi
open Go.Proofs.YtjhnnnfnkjighaaGreatDoor
open Go.Sp Go.RowKit
abbrev GE:=Int×OR
def bP (e:GE):dB:=aa e.1::cS e.2
theorem dJ (e:GE):(bP e).length=37:=by simp[bP,nO]
theorem xH (e:GE):∀u∈bP e,u.oneCell'=true:=by
 intro u hu;rcases pa.1 hu with rfl|hu
 .rfl
 .exact mR _ u hu
def cx:GE:=(0,jW)
def bl (y:bK GE):dB:=bP y.x++[aH y.g,aC (y.st==1)]
theorem bE (y:bK GE):(bl y).length=39:=by simp[bl,dJ]
theorem kT (y:bK GE):∀u∈bl y,u.oneCell'=true:=by
 intro u hu;rcases fj.1 hu with hu|hu
 .exact xH _ u hu
 .simp at hu;rcases hu with rfl|rfl<;>rfl
theorem mW (y:bK GE):(bl y)[37]?=some (aH y.g):=by rw[bl,ix (by rw[dJ];decide),dJ];rfl
theorem zd (y:bK GE):(bl y)[38]?=some (aC (y.st==1)):=by rw[bl,ix (by rw[dJ];decide),dJ];rfl
theorem Dq (x:GE) (g g' st:Int):bl ⟨x,g',st⟩=(bl ⟨x,g,st⟩).set 37 (aH g'):=by rw[bl,bl,lp _ _ (by rw[dJ];decide),dJ];rfl
theorem tM (x:GE) (g st dg:Int) {b:Bool} (hb:(dg==1)=b):bl ⟨x,g,dg⟩=(bl ⟨x,g,st⟩).set 38 (aC b):=by subst hb;rw[bl,bl,lp _ _ (by rw[dJ];decide),dJ];rfl
theorem sK (x y:GE) (g st:Int):bl ⟨x,g,st⟩=(bl ⟨y,g,st⟩).take 0++((bP x).toArray).toList++(bl ⟨y,g,st⟩).drop (0+37):=by rw[bl,bl,qT,m8,dc,ub,dJ,mJ (by rw[dJ];exact eJ _)];rfl
theorem uU (y:bK GE):((bl y).drop 0).take 37=bP y.x:=by rw[bl,m9,sU (by rw[dJ];exact eJ _),eW (by rw[dJ];exact eJ _)]
theorem dw (e:GE):((bP e).toArray).size=37:=by simp[dJ]
theorem fJ (e:GE):∀u∈((bP e).toArray).toList,u.oneCell'=true:=xH e
def Ar (a:Nat) (s:AS GE):HP:=ex λp=>ex λl=>ex λc=>ex λq=>ex λm=>ex λd=>
 ab a #[aa s.aR,aH s.first,af p l c,af q m d,aa s.bn] 343*(aE 533 39 bl p l c s.sp*aE 3 1 dm q m d s.fr)
theorem Ar.aK {O w:ao} {F:HP} {a:Nat} {s:AS GE} (h:V O (Ar a s*F) w):∃p c q d,V O (ab a #[aa s.aR,aH s.first,af p s.sp.length c,af q s.fr.length d,aa s.bn] 343*(aE 533 39 bl p s.sp.length c s.sp*(aE 3 1 dm q s.fr.length d s.fr*F))) w:=by obtain⟨p,h⟩:=V.ex h;obtain⟨l,h⟩:=V.ex h;obtain⟨c,h⟩:=V.ex h;obtain⟨q,h⟩:=V.ex h;obtain⟨m,h⟩:=V.ex h;obtain⟨d,h⟩:=V.ex h;have h:=h.a.p1.a.p2;have e1:=nK bE (by decide) h.right.left;have e2:=nK iN (by decide) h.right.right.left;subst e1 e2;exact⟨p,c,q,d,h⟩
theorem Ar.aI {O w:ao} {F:HP} {a l m:Nat} {aR first:Int} {sp:List (bK GE)} {fr:List Nat} {bn:Nat} {p q:av} {c d:Nat} (h:V O (ab a #[aa aR,aH first,af p l c,af q m d,aa bn] 343*(aE 533 39 bl p l c sp*(aE 3 1 dm q m d fr*F))) w):V O (Ar a ⟨aR,first,sp,fr,bn⟩*F) w:=V.bO p (V.bO l (V.bO c (V.bO q (V.bO m (V.bO d (h.aF (by ac_rfl)))))))
theorem tA {O w:ao} {F:HP} {aR first:Int} (h:V O F w) (h0:1<=aR) (h1:aR<=65536) (h2:first≠0): ae 77 #[aa aR,aH first] w λv w'=>∃a,v=ak #[al a,aa 0]/\V O (Ar a ⟨aR,first,[],[],0⟩*F) w':=by apply Xa;exact aw (by simp;omega)<|aw (by simp;omega)<|aw (by simp;exact h2)<|aG h λb w2 h2=>⟨b,rfl,Ar.aI (l:=0) (m:=0) ((fE 533 39 bl (fE 3 1 dm h2)).aF (by ac_rfl))⟩
theorem sE {h:Int} (h0:0<=h) (h1:h<=18446744073709551615):kN au 274 #[ah h] (ak #[aa (h%4294967296- 1),aH (h/ 4294967296)]):=by
 intro w;apply Am;refine Aq<|aY (by omega) (by omega)<|aY (by omega) (by omega)<|uq (by omega) (by simp only[IntKind.bits];omega) ?_;have e:(2:Int)^(32:Int).toNat=4294967296:=by decide
 rw[e];exact gX (by omega) (by omega) ⟨rfl,rfl⟩
theorem tB {i:Nat} {g:Int} (hi:i<4294967295) (h0:0<=g) (h1:g<=4294967295):gr .or .u64 (g*2^32) ((i:Int)+1)=hd i g:=by
 obtain⟨n,rfl⟩:∃n:Nat,g=n:=⟨g.toNat,by omega⟩;have:=Go.Sp.yE (x:=i+1) (b:=n) (i:=32) (by omega) (by omega) (by omega);have e1:((n*2^32:Nat):Int)=(n:Int)*2^32:=by simp
 rw[e1] at this;rw[show(i:Int)+1=((i+1:Nat):Int) by omega,this,hd];omega
theorem kV {i:Nat} {g:Int} (hi:i<4294967295) (h0:0<=g) (h1:g<=4294967295):kN au 62 #[aa i,aH g] (ah (hd i g)):=by intro w;apply Al;refine fx (by omega) (by omega)<|yF (n:=32) (by omega) (by omega) (by omega)<|aY (by omega) (by omega)<|fx (by omega) (by omega) ?_;rw[tB hi h0 h1];exact⟨rfl,rfl⟩
theorem nk {O w:ao} {F:HP} {a c:Nat} {s:AS GE} {p q:av} {m d:Nat} {h:Int} (hh:V O (ab a #[aa s.aR,aH s.first,af p s.sp.length c,af q m d,aa s.bn] 343*(aE 533 39 bl p s.sp.length c s.sp*F)) w) (h0:0<=h) (h1:h<=18446744073709551615): ae 276 #[al a,ah h] w λv w'=>w'=w/\ match find s h with
   |none=>v=ak #[ag none,aa 0]
   |some i=>∃g,p=some (aD g)/\v=ak #[ag (some ⟨g,i*39,none⟩),aa i]:=by
 apply Xs;have hc:w.cell? ⟨a,2,none⟩=some (af p s.sp.length c):=hh.left.cell (i:=2) rfl;refine fY (sE h0 h1) ⟨_,_,rfl,aw rfl<|bU (λaQ=> ?_) (λbW=>aq<|aN hc<|bU (λxg=> ?_) (λoJ=>aq<|aN hc ?_))⟩
 .rw[find,if_pos (by omega)];exact⟨rfl,rfl⟩
 .rw[find,if_neg (by omega),ua (by omega)];exact⟨rfl,rfl⟩
 .obtain⟨y,hy⟩:∃y,s.sp[(h%4294967296- 1).toNat]?=some y:=⟨s.sp[(h%4294967296- 1).toNat]'(by omega),by simp⟩;have hT:=hh.right.left;refine dC bE hT (by decide) (by omega) hy λg hg=>gQ (cU bE (j:=38) hT hg hy (by decide) (zd y))<|cy (λhb=> ?_) (λhb=>az (cU bE (j:=37) hT hg hy (by decide) (mW y))<|cy (λhn=> ?_) (λhn=> ?_))
  .have hb:y.st≠1:=by simpa using hb
   rw[find,if_neg (by omega),hy];simp[hb]
  .have hn:y.g≠h/ 4294967296:=by simpa using hn
   rw[find,if_neg (by omega),hy];simp[hn]
  .have hb:y.st=1:=by simpa using hb
   have hn:y.g=h/ 4294967296:=by simpa using hn
   rw[find,if_neg (by omega),hy];simp only[hb,hn,and_self,if_true];refine⟨trivial,g,hg,?_⟩;rw[zN (by omega)]
theorem tC {O w:ao} {F:HP} {a:Nat} {s:AS GE} {h:Int} (hh:V O (Ar a s*F) w) (hs:bx s) (h0:0<=h) (h1:h<=18446744073709551615): ae 203 #[al a,ah h] w λv w'=>V O (Ar a s*F) w'/\ match(find s h).bind (s.sp[·]?) with
   |none=>v=ak #[an (bP cx).toArray,aa 2]
   |some y=>v=ak #[an (bP y.x).toArray,aa 0]:=by
 apply Xo;refine aG hh λk w1 h2=> ?_;obtain⟨p,c,q,d,h3⟩:=Ar.aK (h2.p1);refine ay (nk h3 h0 h1) ?_;rcases FY hs h with⟨hf,hb⟩|⟨i,y,hf,hy,h1,hb⟩
 .rw[hb,hf];rintro _ w2 ⟨rfl,rfl⟩;refine⟨_,_,rfl,aW rfl<|aG h2 λk2 w3 h4=>bz h4 rfl<|bL (h4.p1) rfl rfl (fJ cx) λw4 h5=>bz h5 rfl ⟨h5.right.right,rfl⟩⟩
 .rw[hb,hf];rintro _ w2 ⟨rfl,g,hg,rfl⟩;have h6:=h3.aF (B:=ab k (bP cx).toArray 241*(aE 533 39 bl p s.sp.length c s.sp*(ab a #[aa s.aR,aH s.first,af p s.sp.length c,af q s.fr.length d,aa s.bn] 343*(aE 3 1 dm q s.fr.length d s.fr*F)))) (by show ab a _ _*(aE _ _ _ _ _ _ _*(aE _ _ _ _ _ _ _*(ab k (bP cx).toArray 241*F)))=_;ac_rfl);refine⟨_,_,rfl,aw rfl<|aq<|wZ bE (o:=0) (n:=37) h6.right.left hg hy (by decide) (uU y)<|bL h6 rfl (dw _) (fJ _) λw4 h5=>bz h5 (dw _) ⟨Ar.aI h5.right.p1,rfl⟩⟩
theorem nT:fe au 341 533 (an (bl ⟨cx,0,0⟩).toArray) 39 72:=⟨by kernel_rfl,by kernel_rfl,by simp[Value.cells,bE],by decide⟩
end Go.Proofs.YtjhnnnfnkjighaaGreatDoor.Gi
