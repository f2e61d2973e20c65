/- Whole: a part of the proof. No conditions. -/
import Derived.Test.YtjhnnnfnkjighaaGreatDoorQ20
set_option linter.unusedVariables false
set_option linter.unusedSimpArgs false
set_option maxRecDepth 100000
set_option linter.unusedSectionVars false
namespace Go.Proofs.YtjhnnnfnkjighaaGreatDoor.Hp
open Go.Proofs.YtjhnnnfnkjighaaGreatDoor
open Go.Sp Go.RowKit
def vc (r:Nat) (f:Int->Option Int):HP:=gR (λx:Int=>ah x) (λx:Int=>aa x) (λ_=>True) r f
structure GB where
 k1:Nat
 k2:Nat
 k3:Nat
 k4:Nat
 k5:Nat
def GX (g:GB) (b a:Nat) (top:Int) (P:PM) (S:HS) (F:HP) (p:av) (c:Nat) (ws:aJ):HP:=
 ab g.k1 #[al b] 73*(ab g.k3 #[af p ws.length c] 25*(aE 26 1 bS p ws.length c ws*(ab g.k5 #[.map (some g.k4)] 200*(vc g.k4 (pN ws)*(HH b a top P S*(ab g.k2 #[aP,aP] 257*F))))))
def GA (g:GB) (b a:Nat) (top:Int) (P:PM) (S:HS) (F:HP) (ws:aJ):HP:=ex λp=>ex λc=>GX g b a top P S F p c ws
section
variable {O w:ao} {F G:HP} {b a:Nat} {top:Int} {P:PM} {S:HS} {g:GB}
theorem GA.aK {ws:aJ} (h:V O (GA g b a top P S F ws*G) w):∃p c,V O (ab g.k1 #[al b] 73*(ab g.k3 #[af p ws.length c] 25*(aE 26 1 bS p ws.length c ws*(ab g.k5 #[.map (some g.k4)] 200*(vc g.k4 (pN ws)*(HH b a top P S*(ab g.k2 #[aP,aP] 257*(F*G)))))))) w:=by obtain⟨p,h⟩:=V.ex h;obtain⟨c,h⟩:=V.ex h;exact⟨p,c,h.aF (by rw[GX];ac_rfl)⟩
theorem GA.aI {ws:aJ} {p:av} {c l:Nat} (h:V O (ab g.k1 #[al b] 73*(ab g.k3 #[af p l c] 25*(aE 26 1 bS p l c ws*(ab g.k5 #[.map (some g.k4)] 200*(vc g.k4 (pN ws)*(HH b a top P S*(ab g.k2 #[aP,aP] 257*(F*G)))))))) w) (hl:l=ws.length):V O (GA g b a top P S F ws*G) w:=by subst hl;exact V.bO p (V.bO c (h.aF (by rw[GX];ac_rfl)))
def EA (mE:Nat) (es:aJ) (X:HP):HP:=ex λp=>ex λc=>ab mE #[af p es.length c] 167*(aE 3 1 fI p es.length c es*X)
theorem EA.aK {k:Nat} {es:aJ} {X:HP} (h:V O (EA k es X*G) w):∃p c,V O (ab k #[af p es.length c] 167*(aE 3 1 fI p es.length c es*(X*G))) w:=by obtain⟨p,h⟩:=V.ex h;obtain⟨c,h⟩:=V.ex h;exact⟨p,c,h.a.p1.a.p2⟩
theorem EA.aI {k l:Nat} {es:aJ} {X:HP} {p:av} {c:Nat} (h:V O (ab k #[af p l c] 167*(aE 3 1 fI p l c es*(X*G))) w) (hl:l=es.length):V O (EA k es X*G) w:=by subst hl;exact V.bO p (V.bO c (h.g2))
theorem aiJ (hh:V O (HH b a top P S*F) w) (hs:dv top S):ae 80 #[al b] w (aiI O (HH b a top P S*F) S):=by
 apply X8;have xX:=hs.topB.bn;refine aG hh λk1 w1 h1=>aG h1 λk2 w2 h2=>aG h2 λk3 w3 h3=>xh (λx:Int=>ah x) (λx:Int=>aa x) (λ_=>True) h3 λk4 w4 h4=>aG h4 λk5 w5 h5=>bD (i:=0) h5 (by simp) λw6 h6=> ?_;obtain⟨g,hg⟩:∃g:GB,g=⟨k1,k2,k3,k4,k5⟩:=⟨_,rfl⟩;have h7:V O (GA g b a top P S F []*cW) w6:=by refine GA.aI (p:=none) (c:=0) (l:=0) ((fE 26 1 bS h6.cQ).aF ?_) rfl;rw[ais,hg];show aE 26 1 bS none 0 0 []*(cW*(ab k5 #[.map (some k4)] 200*(vc k4 (λ_=>none)*(ab k3 _ 25*(ab k2 _ 257*(ab k1 _ 73*(HH b a top P S*F)))))))=_;dsimp only;ac_rfl
 have e1:k1=g.k1:=by rw[hg]
 have e2:k2=g.k2:=by rw[hg]
 have e3:k3=g.k3:=by rw[hg]
 have e5:k5=g.k5:=by rw[hg]
 rw[e1,e2,e3,e5];clear hg e1 e2 e3 e5 h1 h2 h3 h4 h5 h6 hh;obtain⟨_,_,Hi⟩:=GA.aK h7;refine bh (aB Hi (i:=0) rfl)<|ay (SC h7) ?_;clear Hi;rintro _ w7 ⟨k,rfl,h8⟩;have Bs:V O (ab k #[al b] 73*GA g b a top P S F []) w7:=(h8.e2).right;refine i6<|j7 ⟨O,29,_,(fH 0 S.sp).map Hj,λj=>ab k #[al b] 73*GA g b a top P S F (((fH 0 S.sp).take j).filter (qJ S)),λ_=>bM False,rfl,⟨_,_,Tryz.func29,rfl⟩,Bs,(λz hz=> ?_),SD (P:=P) (top:=top) (a:=a) hs.ok (λw h=>h.left) (λw h=> ?_),(λj z hz G G' T w8 hT h9=> ?_),(λD w8 h9=> ?_),(λD c w8 h9=>(V.nJ h9).elim)⟩
 .obtain⟨y,_,rfl⟩:=fC.1 hz;rfl
 .obtain⟨_,_,h⟩:=GA.aK (h.right.cQ.e1);exact h.right.right.right.right.right.left
 .rw[eZ] at hz;obtain⟨y,hy,rfl⟩:=dd.1 hz;have hym:=dF hy;obtain⟨o,hp⟩:=(CZ hs.ok).2 hym;have hyr:=ni hs.ok hp;obtain⟨wk,L4⟩:∃wk,wk=((fH 0 S.sp).take j).filter (qJ S):=⟨_,rfl⟩;have iM:=(ct.1 hy).1;have DY:=F3 hs.ok;have wh:wk.length<=256:=by have h1:=List.length_filter_le (qJ S) ((fH 0 S.sp).take j);rw[<-L4,fB] at h1;omega
  have mz:(fH 0 S.sp).take (j+1)=(fH 0 S.sp).take j++[y]:=by rw[fV,hy];rfl
  have Cz:y∉wk:=by rw[L4];intro hm;have hm:=(Ch.1 hm).1;have fm:=SF hs.ok;rw[<-mK (j+1) (fH 0 S.sp),mz] at fm;exact(sb.1 (sb.1 fm).1).2.2 y hm y (.head _) rfl
  dsimp only at h9 ⊢;rw[mz,List.filter_append];rw[<-L4] at h9 ⊢;refine⟨y,rfl,hT (ab k #[al b] 73*GA g b a top P S F wk) _ _ h9 λw9 aV=> ?_⟩;obtain⟨p,c,bu⟩:=GA.aK (aV.a.p1);refine bh (aB bu (i:=0) rfl)<|ay (Hf bu.right.right.right.right.right hs.ok (by omega) hyr.2) ?_;rw[Ga hp];have Aj:=aiw hs hp;rintro _ dn ⟨rfl,rfl⟩;refine⟨_,_,rfl,cy (λhe=> ?_) (λcp=> ?_)⟩
  .have he:(if o.ou≠0 then o.ou else y)=y:=by simpa using he
   have hi:=Aj.2 he;have ef:[y].filter (qJ S)=[y]:=by simp[hi]
   rw[ef];refine kK (aB bu.right.right.right (i:=0) rfl)<|aN (aB bu.right (i:=0) rfl)<|xk (v:=(wk.length:Int)) SI (bu.p4) trivial λdP bA=> ?_;rw[ait Cz] at bA;have bA:V O (vc g.k4 (pN (wk++[y]))*(ab g.k1 #[al b] 73*(ab g.k3 #[af p wk.length c] 25*(aE 26 1 bS p wk.length c wk*(ab g.k5 #[.map (some g.k4)] 200*(HH b a top P S*(ab g.k2 #[aP,aP] 257*(F*(ab k #[al b] 73*G'))))))))) dP:=bA;refine aN (aB bA.right.right (i:=0) rfl)<|aG bA λvQ fF bN=> ?_;refine ju uI gL (by decide) uu (x:=y) (bN.p4.p1) rfl (by simp only[maxLen];omega) (by omega) λp' c' fZ bY=> ?_;refine bD (i:=0) (bY.p3) (by simp) λdH cE=> ?_;exact(GA.aI (p:=p') (c:=c') (l:=wk.length+1) (ws:=wk++[y]) (cE.aF (B:=ab g.k1 #[al b] 73*(ab g.k3 #[af p' (wk.length+1) c'] 25*(aE 26 1 bS p' (wk.length+1) c' (wk++[y])*(ab g.k5 #[.map (some g.k4)] 200*(vc g.k4 (pN (wk++[y]))*(HH b a top P S*(ab g.k2 #[aP,aP] 257*(F*(ab k #[al b] 73*G'))))))))) (by show ab g.k3 #[af p' (wk.length+1) c'] 25*_=_;ac_rfl)) (by simp)).p1.g1
  .have cp:¬(if o.ou≠0 then o.ou else y)=y:=by simpa using cp
   have hi:qJ S y=false:=by
    cases hb:qJ S y with
    |false=>rfl
    |true=>exact absurd (Aj.1 hb) cp
   have ef:[y].filter (qJ S)=[]:=by simp[hi]
   rw[ef,jS];exact aV
 dsimp only at h9;rw[fk,j4] at h9;have ews:(fH 0 S.sp).filter (qJ S)=fu S:=rfl;rw[ews] at h9;obtain⟨ws,sP⟩:∃ws,ws=fu S:=⟨_,rfl⟩;rw[<-sP] at h9;have wh:=SG hs.ok;rw[<-sP] at wh;refine aG h9 λlL w9 aV=> ?_;obtain⟨lO,lP,bu⟩:=GA.aK (aV.p2.e3);have bA:V O (mG [D]*(ab lL #[aP,aP] 257*GX g b a top P S F lO lP ws)) w9:=(bu.aF (B:=ab k #[al b] 73*(fw D*(ab lL #[aP,aP] 257*GX g b a top P S F lO lP ws))) (by rw[GX];ac_rfl)).right.cQ.aF (by rw[mG,mG];ac_rfl);refine aN (aB bu.right (i:=0) rfl) ?_;clear h7 h8 Bs h9 aV bu;refine⟨λn ds w m=>∃Ds cs bj pc cc pe ce,0<=n/\n<=ws.length/\m=ws.length- n.toNat/\ds=Ds.map L1/\bj.map (·.l)=(ws.take n.toNat).map (tO S ws)/\cs=(ws.take n.toNat).map (oW S)/\V O (mG Ds*(ab lL #[af pc cs.length cc,af pe bj.length ce] 257*(sO pc cc pe ce cs bj*GX g b a top P S F lO lP ws))) w,⟨_,[D],[],[],none,0,none,0,by decide,by omega,rfl,rfl,rfl,rfl,(fE 108 1 ow (fE 167 1 oy bA.cQ)).aF (by show aE 108 1 ow none 0 0 []*(aE 167 1 oy none 0 0 []*(cW*_))=mG [D]*(ab lL #[aP,aP] 257*((aE 108 1 ow none 0 0 []*(aE 167 1 oy none 0 0 []*cW))*_));ac_rfl)⟩,?_⟩;clear bA;rintro u ds n dn m ⟨Ds,cs,bj,pc,cc,pe,ce,n0,nl,rfl,rfl,qI,dT,bN⟩;have tu:bj.length=n.toNat:=by have:=congrArg List.length qI;rw[fk,fk,fB] at this;omega
 have j8:cs.length=n.toNat:=by rw[dT,fk,fB];omega
 refine bU (λaQ=> ?_) (λbW=> ?_);case refine_2=>
  have hn:n.toNat=ws.length:=by omega
  rw[hn,j4] at qI dT;have bN:=bN.drew;have tP:=bN.right.right.right;refine bz bN.right rfl<|aN (aB (show V O (ab g.k1 _ _*_) _ from tP).right (i:=0) rfl)<|bL (bN.aF (B:=ab g.k2 #[aP,aP] 257*(ab g.k3 #[af lO ws.length lP] 25*(mG Ds*(ab lL #[af pc cs.length cc,af pe bj.length ce] 257*(ab g.k1 #[al b] 73*(ab g.k5 #[.map (some g.k4)] 200*(vc g.k4 (pN ws)*(sO pc cc pe ce cs bj*(aE 26 1 bS lO ws.length lP ws*(HH b a top P S*F)))))))))) (by rw[GX];ac_rfl)) rfl rfl (by simp[Value.oneCell']) λdP bY=>⟨aB bY.right (i:=0) rfl,?_⟩;refine SE (bY.p2) λfF cE=> ?_;have e1:bj.length=(fu S).length:=by rw[<-sP,tu,hn]
  have e2:cs.length=(fu S).length:=by rw[<-sP,j8,hn]
  refine bz cE rfl ⟨pc,cc,pe,ce,lO,lP,bj,by rw[<-sP];exact qI,by rw[e1,e2,sP],?_⟩;rw[sP] at dT;rw[<-dT,<-sP];exact cE.right.right.right.right.right.right
 have hi:n.toNat<ws.length:=by omega
 obtain⟨h,hh⟩:∃h,ws[n.toNat]?=some h:=⟨_,gm hi⟩;obtain⟨o,hp,Hg⟩:=L3 hs.ok (sP▸dF hh);have L5:=ni hs.ok hp;have tG:=hs.fN h o hp;have uW:=hs.F9 hp;have tP:V O (ab g.k1 #[al b] 73*(ab g.k3 #[af lO ws.length lP] 25*(aE 26 1 bS lO ws.length lP ws*(ab g.k5 #[.map (some g.k4)] 200*(vc g.k4 (pN ws)*(HH b a top P S*(ab g.k2 #[aP,aP] 257*F))))))) dn:=bN.right.right.right;refine dC gL tP.right.right.left (by decide) n0 hh λga L6=>az (n:=h) (by have:=cU gL tP.right.right.left L6 hh (j:=0) (by decide) rfl;rwa[Sp.add_zero] at this)<|bh (aB tP (i:=0) rfl)<|ay (rR tP.right.right.right.right.right hs.ok (by omega) L5.2) ?_;rintro _ dP ⟨rfl,⟨cG,rfl⟩|⟨ko,o',cG,SJ,rfl⟩⟩
 .rw[hp] at cG;cases cG
 rw[hp] at cG;cases cG;refine⟨_,_,rfl,aG bN λmE fF bY=>aG bY λk39 fZ cE=> ?_⟩;have df:V O (aE 26 1 bS (aU k39) 1 1 [h]*(ab mE #[aP] 167*(mG Ds*(ab lL #[af pc cs.length cc,af pe bj.length ce] 257*(sO pc cc pe ce cs bj*GX g b a top P S F lO lP ws))))) fZ:=cE.lx (t:=26) (sz:=1) (n:=1) rfl (by decide);have Hn:∀{w:ao},V O (GX g b a top P S F lO lP ws) w->V O (HH b a top P S*(ab g.k2 #[aP,aP] 257*F)) w:=λh=>(show V O (ab g.k1 _ _*(ab g.k3 _ _*(aE _ _ _ _ _ _ _*(ab g.k5 _ _*(vc _ _*_))))) _ from h).right.right.right.right.right;obtain⟨ko',L,R,DZ,kL,_⟩:=HH.at (Hn df.right.right.right.right.right) hs.ok hp;rw[SJ] at DZ;cases DZ;have fQ:Rd fZ 1 L.pi o.cj.length (o.cj.flatMap bS):=(DU kL).right.right.left.rd;refine aq<|aN (u6 kL (i:=4) rfl)<|xc (ys:=[h]) (l:=1) uI gL uu df fQ (by simp only[maxLen];omega) (by omega) λwv wy dH dZ=> ?_;have dZ:V O (aE 26 1 bS wv (1+o.cj.length) wy (h::o.cj)*(ab mE #[aP] 167*(mG Ds*(ab lL #[af pc cs.length cc,af pe bj.length ce] 257*(sO pc cc pe ce cs bj*GX g b a top P S F lO lP ws))))) dH:=dZ;clear kL fQ tP bN bY cE df;obtain⟨ps,s6⟩:∃ps,ps=h::o.cj:=⟨_,rfl⟩;have SK:ps.length=1+o.cj.length:=by rw[s6,iB];omega
 have lF:xZ S h=o.cj:=by rw[xZ,hp]
 have aiP:∀i∈ps,∃o,bg S i=some o:=(s6▸(hs.Gc hp Hg).2);rw[<-s6,<-SK] at dZ;rw[<-SK];have SL:∀j:Nat,(((ps.take j).flatMap (mc S)).filterMap (eC S ws)).length<=8*(S.bn+1):=λj=>by
  have h1:=SH hs ws (h:=h);have h2:∀l:aJ,(l.flatMap (mc S)).length<=8*l.length:=λl=>by
   induction l with
   |nil=>simp
   |cons a l ih=>
    have h2:(mc S a).length<=8:=by
     unfold mc;split
     .rename_i o hp;exact(hs.fN a o hp).len
     .simp
    rw[jE,gp,iB];omega
  have h3:=h2 (ps.take j);have h4:=Ez (eC S ws) ((ps.take j).flatMap (mc S));rw[fB] at h3;omega
 refine⟨λi ds w m=>∃Ds,0<=i/\i<=ps.length/\m=ps.length- i.toNat/\ds=Ds.map L1/\V O (EA mE (((ps.take i.toNat).flatMap (mc S)).filterMap (eC S ws)) (mG Ds*(aE 26 1 bS wv ps.length wy ps*(ab lL #[af pc cs.length cc,af pe bj.length ce] 257*(sO pc cc pe ce cs bj*GX g b a top P S F lO lP ws))))*cW) w,⟨_,Ds,by decide,by omega,rfl,rfl,EA.aI (p:=none) (l:=0) (c:=0) ((fE 3 1 fI dZ.cQ).aF (by show aE 3 1 fI none 0 0 []*(cW*(aE 26 1 bS wv ps.length wy ps*(ab mE #[aP] 167*(mG Ds*_))))=ab mE #[aP] 167*(aE 3 1 fI none 0 0 []*_);ac_rfl)) rfl⟩,?_⟩;clear dZ;rintro u ds i kQ m ⟨Ds,i0,il,rfl,rfl,fO⟩;refine bU (λamX=> ?_) (λamY=> ?_)
 .have xV:i.toNat<ps.length:=by omega
  obtain⟨x,hx⟩:∃x,ps[i.toNat]?=some x:=⟨_,gm xV⟩;obtain⟨q,hq⟩:=aiP x (dF hx);have hxr:=ni hs.ok hq;have xv:=hs.fN x q hq;have hq8:=xv.len;obtain⟨es,zo⟩:∃es,es=((ps.take i.toNat).flatMap (mc S)).filterMap (eC S ws):=⟨_,rfl⟩;have D0:=SL i.toNat;rw[<-zo] at fO D0;obtain⟨X,hX⟩:∃X:HP,X=(mG Ds*(aE 26 1 bS wv ps.length wy ps*(ab lL #[af pc cs.length cc,af pe bj.length ce] 257*(sO pc cc pe ce cs bj*GX g b a top P S F lO lP ws)))):=⟨_,rfl⟩;have toG:∀{w:ao} {Y:HP},V O (X*Y) w->V O (GX g b a top P S F lO lP ws) w:=λh=>by rw[hX] at h;exact h.left.right.right.right.right
  have toGk:∀{w:ao},V O (GX g b a top P S F lO lP ws) w->w.cell? (aD g.k1)=some (al b):=λh=>by have:=aB (show V O (ab g.k1 #[al b] 73*_) _ from h) (i:=0) rfl;rwa[Sp.add_zero] at this
  have toGm:∀{w:ao},V O (GX g b a top P S F lO lP ws) w->V O (ab g.k5 #[.map (some g.k4)] 200*(vc g.k4 (pN ws)*(HH b a top P S*(ab g.k2 #[aP,aP] 257*F)))) w:=λh=>(show V O (ab g.k1 _ _*(ab g.k3 _ _*(aE _ _ _ _ _ _ _*_))) _ from h).right.right.right;rw[<-hX] at fO;obtain⟨_,_,L7⟩:=EA.aK fO;have L8:V O (aE 26 1 bS wv ps.length wy ps) kQ:=by have:=L7.right.right.left;rw[hX] at this;exact this.right.left
  refine dC gL L8 (by decide) i0 hx λga L6=>az (n:=x) (by have:=cU gL L8 L6 hx (j:=0) (by decide) rfl;rwa[Sp.add_zero] at this)<|bh (toGk (toG L7.right.right))<|ay (aip (h:=x) fO) ?_;clear L7 L8;rintro _ nM ⟨kk,D1,rfl,fq⟩;have hB0:V O (ab D1 #[ah x] 26*(ab kk #[al b] 73*EA mE (es++(q.ln.take 0).filterMap (eC S ws)) X)) nM:=by rw[qT,List.filterMap_nil,jS];exact(fq.e3).right
  refine i6<|j7 ⟨O,231,_,q.ln.zipIdx.map ja,λj=>ab D1 #[ah x] 26*(ab kk #[al b] 73*EA mE (es++(q.ln.take j).filterMap (eC S ws)) X),λ_=>bM False,rfl,⟨_,_,Tryz.func231,rfl⟩,hB0,(λz hz=> ?_),aiq (P:=P) (top:=top) (a:=a) (b:=b) hs.topB hq (λw h=>h.right.left) (λw h=>h.left) (λw h=> ?_),(λj z hz G G' T nN hT jd=> ?_),(λD nN jd=> ?_),(λD c nN jd=>(V.nJ jd).elim)⟩
  .obtain⟨y,_,rfl⟩:=fC.1 hz;rfl
  .obtain⟨_,_,h⟩:=EA.aK (h.right.right.cQ.e1);exact(Hn (toG h.right.right)).left
  .rw[eZ,List.getElem?_zipIdx] at hz;obtain⟨⟨y,jj⟩,hy,rfl⟩:=dd.1 hz;obtain⟨y',dQ,e⟩:=dd.1 hy;cases e;have iM:=(ct.1 dQ).1;have SM:=xv.ln y (dF dQ);obtain⟨ek,L9⟩:∃ek,ek=es++(q.ln.take j).filterMap (eC S ws):=⟨_,rfl⟩;have am0:ek.length<=5000:=by have h1:=Ez (eC S ws) (q.ln.take j);rw[fB] at h1;rw[L9,gp];omega
   have mz:es++(q.ln.take (j+1)).filterMap (eC S ws)=ek++(match eC S ws y with|some n=>[n]|none=>[]):=by rw[L9,fV,dQ,Cc,List.filterMap_append,iy];congr 2;cases he:eC S ws y<;>simp[he]
   dsimp only at jd ⊢;rw[mz];rw[<-L9] at jd;refine⟨_,_,rfl,aG jd λMa nL my=>bL my rfl rfl (DS y) λrp oN=>hT (ab Ma (iI y) 139*(ab D1 #[ah x] 26*(ab kk #[al b] 73*EA mE ek X))) _ _ (oN.aF (by show ab Ma (iI y) 139*_=_;ac_rfl)) λqt qf=> ?_⟩;have rq:V O (ab Ma (iI y) 139*(EA mE ek X*(ab D1 #[ah x] 26*(ab kk #[al b] 73*G')))) qt:=qf.aF (by ac_rfl);have skip:eC S ws y=none->V O (ab D1 #[ah x] 26*(ab kk #[al b] 73*EA mE (ek++(match eC S ws y with|some n=>[n]|none=>[])) X)*G') qt:=λhe=>by rw[he];dsimp only;rw[jS];exact rq.right.p2.p2.g2
   refine az (n:=y.1) (aB rq (i:=0) rfl)<|cy (λcp=>skip ?_) (λhe=> ?_)
   .have cp:y.1≠1:=by simpa using cp
    rw[eC,if_neg cp]
   have he:y.1=1:=by simpa using he
   obtain⟨mY,ce',sv⟩:=EA.aK rq.right;have tP:=toG sv.right.right;refine bh (toGk tP)<|az (n:=y.2) (aB rq (i:=1) rfl)<|ay (Hf (Hn tP) hs.ok SM.2.1 SM.2.2) ?_;rintro _ tr ⟨rfl,rfl⟩;cases hw:whole S y.2 with
   |none=>refine⟨_,_,rfl,aw rfl (skip ?_)⟩;rw[eC,if_pos he,hw];rfl
   |some z=>
    have hzm:z∈ws:=sP▸aiv hs hw;have Mb:eC S ws y=some (ws.idxOf z:Int):=by rw[eC,if_pos he,hw];rfl
    have s4:pN ws z=some (ws.idxOf z:Int):=by rw[pN,if_pos hzm]
    rw[Mb];dsimp only;have hM:=toGm tP;refine⟨_,_,rfl,aW rfl<|aN (by have:=aB sv (i:=0) (v:=af mY ek.length ce') rfl;rwa[Sp.add_zero] at this)<|kK (by have:=aB hM (i:=0) (v:=.map (some g.k4)) rfl;rwa[Sp.add_zero] at this)<|xj (kf:=λx:Int=>ah x) (vf:=λx:Int=>aa x) (S:=λ_=>True) SI (x:=z) hM.right trivial (aiF _) ?_⟩;rw[s4];refine bI<|aG sv λFT AI xp=> ?_;refine ju nR aiz (by decide) aiA (x:=(ws.idxOf z:Int)) (xp.p2.p1) rfl (by simp only[maxLen];omega) (by omega) λp' c' AJ h27=> ?_;refine bD (i:=0) (h27.p1) (by simp) λFR h28=> ?_;exact(EA.aI (k:=mE) (p:=p') (c:=c') (l:=ek.length+1) (es:=ek++[(ws.idxOf z:Int)]) (X:=X) h28 (by simp)).p2.p2.g2
  .dsimp only at jd;rw[fk,List.length_zipIdx,j4] at jd;have mz:((ps.take (i+1).toNat).flatMap (mc S)).filterMap (eC S ws)=es++q.ln.filterMap (eC S ws):=by rw[show(i+1).toNat=i.toNat+1 by omega,fV,hx,zo,sW,List.filterMap_append];congr 1;simp[mc,hq]
   refine aY (by omega) (by omega) ⟨_,?_,D::Ds,by omega,by omega,rfl,rfl,?_⟩
   .omega
   .rw[mz];obtain⟨p',c',my⟩:=EA.aK (jd.p2.p2.e3);refine EA.aI (p:=p') (c:=c') ?_ rfl;have oN:=(my.e5.e5.e5.g1).right.cQ;exact oN.aF (by rw[hX,mG];ac_rfl)
 .have ei:ps.take i.toNat=ps:=eW (by omega);have D0:=SL i.toNat;rw[ei] at fO D0;have Mb:(ps.flatMap (mc S)).filterMap (eC S ws)=tO S ws h:=by rw[tO,lF,s6]
  rw[Mb] at fO D0;obtain⟨es,zo⟩:∃es,es=tO S ws h:=⟨_,rfl⟩;rw[<-zo] at fO D0;obtain⟨rT,rU,fq⟩:=EA.aK fO.drew;have fq:V O (ab mE #[af rT es.length rU] 167*(aE 3 1 fI rT es.length rU es*(mG Ds*(aE 26 1 bS wv ps.length wy ps*(ab lL #[af pc cs.length cc,af pe bj.length ce] 257*(sO pc cc pe ce cs bj*GX g b a top P S F lO lP ws)))))) kQ.drew:=(fq.p2.a.p1.a.p1.a.p1.a.p2.p3.p4.p6.p6.e7).right;obtain⟨ko',L,R,DZ,kL,_⟩:=HH.at (Hn fq.right.right.right.right.right.right) hs.ok hp;rw[SJ] at DZ;cases DZ;have am1:=tG.cn;refine aN (aB fq.right.right.right.right (i:=0) rfl)<|aq<|az (n:=o.cn) (u6 kL (i:=0) rfl)<|aG fq λK9 nM jd=> ?_;refine ju aiD aix (by decide) aiy (x:=o.cn) (jd.aF (B:=ab K9 #[aH o.cn] 108*(aE 108 1 ow pc cs.length cc cs*(ab lL #[af pc cs.length cc,af pe bj.length ce] 257*(ab mE #[af rT es.length rU] 167*(aE 3 1 fI rT es.length rU es*(mG Ds*(aE 26 1 bS wv ps.length wy ps*((aE 167 1 oy pe bj.length ce bj*mH bj)*GX g b a top P S F lO lP ws)))))))) (by rw[sO];ac_rfl)) rfl (by simp only[maxLen];omega) (by omega) λD2 D3 nN my=> ?_;refine bD (i:=0) (my.p1) (by simp) λnL oN=> ?_;have oN:V O (ab lL #[af D2 (cs.length+1) D3,af pe bj.length ce] 257*(aE 108 1 ow D2 (cs.length+1) D3 (cs++[o.cn])*(ab mE #[af rT es.length rU] 167*(aE 3 1 fI rT es.length rU es*(mG Ds*(aE 26 1 bS wv ps.length wy ps*((aE 167 1 oy pe bj.length ce bj*mH bj)*GX g b a top P S F lO lP ws))))))) nL:=oN;refine aN (aB oN (i:=1) rfl)<|aN (by have:=aB oN.right.right (i:=0) (v:=af rT es.length rU) rfl;rwa[Sp.add_zero] at this)<|aG oN λk85 rp qf=> ?_;refine ju aiE aiB (by decide) aiC (x:=(⟨rT,rU,es⟩:pP)) (qf.p7.a.p8.p8.p8.p8.p8.p8.p6.p8) rfl (by simp only[maxLen];omega) (by omega) λMc Md qt rq=> ?_;refine bD (i:=1) (rq.p1) (by simp) λtr sv=> ?_;have mz:ws.take (n+1).toNat=ws.take n.toNat++[h]:=by rw[show(n+1).toNat=n.toNat+1 by omega,fV,hh];rfl
  refine aY (by omega) (by omega) ⟨_,?_,Ds,cs++[o.cn],bj++[⟨rT,rU,es⟩],D2,D3,Mc,Md,by omega,by omega,rfl,rfl,?_,?_,?_⟩
  .omega
  .rw[mz,nF,nF,qI,zo];rfl
  .rw[mz,nF,dT];simp[oW,hp]
  .have e1:(cs++[o.cn]).length=cs.length+1:=by simp
   have e2:(bj++[(⟨rT,rU,es⟩:pP)]).length=bj.length+1:=by simp
   have sv:V O (ab lL #[af D2 (cs.length+1) D3,af Mc (bj.length+1) Md] 257*(aE 167 1 oy Mc (bj.length+1) Md (bj++[⟨rT,rU,es⟩])*(aE 108 1 ow D2 (cs.length+1) D3 (cs++[o.cn])*(ab mE #[af rT es.length rU] 167*(aE 3 1 fI rT es.length rU es*(mG Ds*(aE 26 1 bS wv ps.length wy ps*(mH bj*GX g b a top P S F lO lP ws)))))))) tr:=sv;rw[sO,e1,e2,aiH,Hm];dsimp only;have xp:=(sv.p2.p1.p5.p6.p5.g1).right;exact xp.aF (by ac_rfl)
end
end Go.Proofs.YtjhnnnfnkjighaaGreatDoor.Hp
namespace Go.Proofs.YtjhnnnfnkjighaaGreatDoor
open Go.Sp Go.RowKit
def oz (n:Int):aJ:=[0,0,0,0,0,0,0,0,0,0,0,0,0,0,0,n]
def vd:oT:=⟨oz 0,-1,by decide⟩
def x4:oT:=⟨oz 1,0,by decide⟩
def BI:oT:=⟨oz 2,1,by decide⟩
def SN:List (List ig):=[Gl,Gm,[⟨10,0,0⟩,⟨3,0,0⟩,⟨11,0,0⟩]]
def aiV:List (List ig):=[[⟨2,0,0⟩,⟨8,0,0⟩,⟨11,0,0⟩],[⟨2,0,0⟩,⟨8,0,4⟩,⟨1,1,0⟩,⟨5,0,0⟩,⟨11,0,0⟩],[⟨9,1,0⟩,⟨3,0,0⟩,⟨11,0,0⟩]]
def wz:jz:=⟨oz 100,[vd,x4,BI],2,SN++aiV,by decide⟩
def SP:jz:=⟨oz 101,[vd,x4],2,SN,by decide⟩
def jP:List jz:=[wz,SP]
theorem Ho:BB jP:=⟨by decide+kernel,by decide+kernel,by decide+kernel⟩
def ji (k:Nat) (s:AS kX):HP:=bM (bx s)*Rf.Ar k s
def jB (k r:Nat) (bX:Int) (l:List (Int×Int)):HP:=bM (l.length<=1/\(0<=bX/\bX<=1000001)/\∀p∈l,0<=p.2/\p.2<=1000001)*dK k r 4 bX (lk l)
def mi (k:Nat) (q:List PK):HP:=ex λ(l:List QE)=>bM (l.map (·.y)=q)*gV k l
def rV:Option Nat->Option pE->HP
 |some k,some g=>mX k g
 |_,none=>cW
 |none,some _=>bM False
def cP (f:eX) (kg:Option Nat) (e:QE):aM:=(([ah f.ob,aa f.md,aa f.mt,aa f.n,ag (kg.map λk=>(aD k)),aa f.arg.1,ah f.arg.2,ah f.wt,aC f.rd,aa f.rs,aa f.cd]:dB)++(gB e++[ah f.cl])).toArray
def gE (k:Nat) (f:eX):HP:=ex λ(kg:Option Nat)=>ex λ(e:QE)=>bM (e.y=f.bk)*(ab k (cP f kg e) 284*rV kg f.fr)
def sQ:Option eX->Nat
 |none=>0
 |some _=>1
def jk (p:av) (c:Nat):Option eX->HP
 |none=>own 278 1 p 0 c []
 |some f=>if f.md= -1 then ex λ(q:av)=>ex λ(d:Nat)=>own 278 1 p 1 c [af q 0 d]*own 279 1 q 0 d []
  else if f.md= -2 then ex λ(q:av)=>ex λ(d:Nat)=>own 278 1 p 1 c [af q 1 d]*own 279 1 q 1 d [al f.ob.toNat]
  else ex λ(q:av)=>ex λ(d:Nat)=>ex λ(kf:Nat)=>own 278 1 p 1 c [af q 1 d]*(own 279 1 q 1 d [al kf]*gE kf f)
structure eA where
 kh:Nat
 kr:Nat
 ks:Nat
 kp:Nat
 kl:Nat
 rl:Nat
 kq:Nat
structure lQ extends eA where
 tp:av
 tc:Nat
def gl (P:lQ) (H:dr):aM:=#[aC H.pF,aC false,al P.kr,al P.ks,al P.kp,al P.kl,al P.kq,af P.tp (sQ H.th) P.tc]
def ir (P:lQ) (k:Nat) (i:Int) (H:dr):HP:=
 ab k (gl P H) 135*(ji P.kr H.fi*(dD P.ks i H.ca*(eE P.kp H.dA*(jB P.kl P.rl H.bX H.gU*(mi P.kq H.ij*jk P.tp P.tc H.th)))))
def qK (k:eA) (i:Int) (H:dr):HP:=ex λ(P:lQ)=>bM (P.toeA=k)*ir P k.kh i H
def dO:Int->List eA->List dr->HP
 |i,k::ks,H::Hs=>qK k i H*dO (i+1) ks Hs
 |_,[],[]=>cW
 |_,_,_=>bM False
theorem dO.pull:∀(Hs:List dr) (i:Int) (ks:List eA) (j:Nat) (H:dr),ks.length=Hs.length->Hs[j]?=some H->∃(k:eA) (X:HP),ks[j]?=some k/\dO i ks Hs=qK k (i+j) H*X/\∀H',dO i ks (Hs.set j H')=qK k (i+j) H'*X
 |[],i,ks,j,H,hl,h=>by simp at h
 |G::Hs,i,[],j,H,hl,h=>by simp at hl
 |G::Hs,i,k::ks,0,H,hl,h=>by simp at h;subst h;exact⟨k,dO (i+1) ks Hs,rfl,by simp[dO],λH'=>by simp[dO]⟩
 |G::Hs,i,k::ks,j+1,H,hl,h=>by
  obtain⟨k',X,h1,h2,h3⟩:=dO.pull Hs (i+1) ks j H (by simpa using hl) (by simpa using h);have e:i+1+(j:Int)=i+((j+1:Nat):Int):=by omega
  refine⟨k',qK k i G*X,by simpa using h1,?_,λH'=> ?_⟩
  .rw[dO,h2,e];ac_rfl
  .rw[zO,dO,h3,e];ac_rfl
def gF (b:Nat) (S:HS):HP:=ex λ(a:Nat)=>ex λP=>bM (dv 1048576 S)*Hp.HH b a 1048576 P S
def tQ (l:List (Int×Int)) (h:Int):Option Int:=(l.find? (λp=>p.1=h)).map (·.2)
def x5 (h:Int):Value:=an #[aa h,aa 0,aa 0]
def oB (r:Nat) (l:List (Int×Int)):HP:=gR (λx:Int=>ah x) x5 (λ_=>True) r (tQ l)
def jC (b:Nat) (s:AS (Int×OR)):HP:=ex λ(a:Nat)=>bM (bx s)*Gi.Gt b a s
def iW (b:Nat) (M:NM) (n:Nat):HP:=bM (l0 M n/\n<=10000)*gw b M
def gH (k:Nat) (ld:Bool) (c0 c2 cK:Int):HP:=bM ((0<=cK/\cK<=1000001)/\(0<=c0/\c0<=1000000)/\0<=c2/\c2<=1000000)*dU k jP 1 ⟨ld,c0,c2,cK⟩
def jm (k:Nat) (s:AS tH):HP:=bM (bx s)*Lt.Ar k s
def jn:Option Nat->Option fz->HP
 |some k,some r=>dt k r
 |none,none=>cW
 |_,_=>bM False
def pQ (l:aJ):dB:=l.map (.int .u64 ·)
def eF (t:TM):dB:=[aa t.kind,ah t.dR,aa t.pG,aa t.n,aa t.ed,aa t.code]
theorem m3 (t:TM):(eF t).length=6:=rfl
theorem D4 (t:TM):∀u∈eF t,u.oneCell'=true:=by simp[eF,Value.oneCell']
theorem Hq:fe au 36 50 (an (eF ⟨0,0,0,0,0,0⟩).toArray) 6 48:=⟨by kernel_rfl,by kernel_rfl,rfl,by decide⟩
structure WP where
 cf:aM
 hp:av
 hc:Nat
 bw:List eA
 heap:Nat
 eM:Nat
 kB:Nat
 dG:Nat
 kC:Nat
 cD:Nat
 eV:Nat
 di:Nat
 run:Option Nat
 wp:av
 wc:Nat
 tp:av
 tc:Nat
structure WI where
 cf:aM
 hp:av
 hc:Nat
 bw:List eA
 heap:Nat
 eM:Nat
 kB:Nat
 dG:Nat
 kC:Nat
 cD:Nat
 eV:Nat
 di:Nat
def WP.im (P:WP):WI:=⟨P.cf,P.hp,P.hc,P.bw,P.heap,P.eM,P.kB,P.dG,P.kC,P.cD,P.eV,P.di⟩
def wB (P:WP) (S:WS):aM:=P.cf++#[af P.hp P.bw.length P.hc,al P.heap,.map (some P.eM),al P.kB,al P.dG,al P.kC,al P.cD,al P.eV,al P.di,ah S.ft,ag (P.run.map λk=>(aD k)),af P.wp S.jM.length P.wc,af P.tp S.told.length P.tc]
def bT (P:WP) (k:Nat) (S:WS):HP:=bM (P.cf.size=5/\P.cf[2]?=some (aa 2)/\P.bw.length=S.bQ.length)*(ab k (wB P S) 90*own 128 1 P.hp P.bw.length P.hc (P.bw.map λκ=>al κ.kh))
def iu (P:WP) (S:WS):HP:=own 26 1 P.wp S.jM.length P.wc (pQ S.jM)
def iJ (P:WP) (S:WS):HP:=aE 50 6 eF P.tp S.told.length P.tc S.told
def WO (P:WP) (k:Nat) (S:WS):HP:=
 bT P k S*(dO 0 P.bw S.bQ*(gF P.heap S.heap*(oB P.eM S.eM*(mZ P.kB*(jC P.dG S.dG*(lM P.kC*(iW P.cD S.cD S.sn*(gH P.eV S.ld S.c0 S.c2 S.cK*(jm P.di S.di*(jn P.run S.run*(iu P S*iJ P S)))))))))))
def WH (k:Nat) (I:WI) (S:WS):HP:=ex λ(P:WP)=>bM (P.im=I)*WO P k S
def iX (P:WP) (k:Nat) (S:WS):HP:=gF P.heap S.heap*(oB P.eM S.eM*(mZ P.kB*(jC P.dG S.dG*(lM P.kC*(iW P.cD S.cD S.sn*(gH P.eV S.ld S.c0 S.c2 S.cK*(jm P.di S.di*(jn P.run S.run*(iu P S*iJ P S)))))))))
def tR (P:WP) (k:Nat) (S:WS):HP:=dO 0 P.bw S.bQ*(oB P.eM S.eM*(mZ P.kB*(jC P.dG S.dG*(lM P.kC*(iW P.cD S.cD S.sn*(gH P.eV S.ld S.c0 S.c2 S.cK*(jm P.di S.di*(jn P.run S.run*(iu P S*iJ P S)))))))))
def BJ (P:WP) (k:Nat) (S:WS):HP:=dO 0 P.bw S.bQ*(gF P.heap S.heap*(mZ P.kB*(jC P.dG S.dG*(lM P.kC*(iW P.cD S.cD S.sn*(gH P.eV S.ld S.c0 S.c2 S.cK*(jm P.di S.di*(jn P.run S.run*(iu P S*iJ P S)))))))))
def Hr (P:WP) (k:Nat) (S:WS):HP:=dO 0 P.bw S.bQ*(gF P.heap S.heap*(oB P.eM S.eM*(jC P.dG S.dG*(lM P.kC*(iW P.cD S.cD S.sn*(gH P.eV S.ld S.c0 S.c2 S.cK*(jm P.di S.di*(jn P.run S.run*(iu P S*iJ P S)))))))))
def BK (P:WP) (k:Nat) (S:WS):HP:=dO 0 P.bw S.bQ*(gF P.heap S.heap*(oB P.eM S.eM*(mZ P.kB*(lM P.kC*(iW P.cD S.cD S.sn*(gH P.eV S.ld S.c0 S.c2 S.cK*(jm P.di S.di*(jn P.run S.run*(iu P S*iJ P S)))))))))
def Ht (P:WP) (k:Nat) (S:WS):HP:=dO 0 P.bw S.bQ*(gF P.heap S.heap*(oB P.eM S.eM*(mZ P.kB*(jC P.dG S.dG*(iW P.cD S.cD S.sn*(gH P.eV S.ld S.c0 S.c2 S.cK*(jm P.di S.di*(jn P.run S.run*(iu P S*iJ P S)))))))))
def BL (P:WP) (k:Nat) (S:WS):HP:=dO 0 P.bw S.bQ*(gF P.heap S.heap*(oB P.eM S.eM*(mZ P.kB*(jC P.dG S.dG*(lM P.kC*(gH P.eV S.ld S.c0 S.c2 S.cK*(jm P.di S.di*(jn P.run S.run*(iu P S*iJ P S)))))))))
def wA (P:WP) (k:Nat) (S:WS):HP:=dO 0 P.bw S.bQ*(gF P.heap S.heap*(oB P.eM S.eM*(mZ P.kB*(jC P.dG S.dG*(lM P.kC*(iW P.cD S.cD S.sn*(jm P.di S.di*(jn P.run S.run*(iu P S*iJ P S)))))))))
def BM (P:WP) (k:Nat) (S:WS):HP:=dO 0 P.bw S.bQ*(gF P.heap S.heap*(oB P.eM S.eM*(mZ P.kB*(jC P.dG S.dG*(lM P.kC*(iW P.cD S.cD S.sn*(gH P.eV S.ld S.c0 S.c2 S.cK*(jn P.run S.run*(iu P S*iJ P S)))))))))
def kD (P:WP) (k:Nat) (S:WS):HP:=dO 0 P.bw S.bQ*(gF P.heap S.heap*(oB P.eM S.eM*(mZ P.kB*(jC P.dG S.dG*(lM P.kC*(iW P.cD S.cD S.sn*(gH P.eV S.ld S.c0 S.c2 S.cK*(jm P.di S.di))))))))
section
variable {P:WP} {k:Nat} {S:WS}
theorem WO.bQ:WO P k S=dO 0 P.bw S.bQ*(bT P k S*iX P k S):=by unfold WO iX;ac_rfl
theorem WO.heap:WO P k S=gF P.heap S.heap*(bT P k S*tR P k S):=by unfold WO tR;ac_rfl
theorem WO.eM:WO P k S=oB P.eM S.eM*(bT P k S*BJ P k S):=by unfold WO BJ;ac_rfl
theorem WO.kB:WO P k S=mZ P.kB*(bT P k S*Hr P k S):=by unfold WO Hr;ac_rfl
theorem WO.dG:WO P k S=jC P.dG S.dG*(bT P k S*BK P k S):=by unfold WO BK;ac_rfl
theorem WO.kC:WO P k S=lM P.kC*(bT P k S*Ht P k S):=by unfold WO Ht;ac_rfl
theorem WO.cD:WO P k S=iW P.cD S.cD S.sn*(bT P k S*BL P k S):=by unfold WO BL;ac_rfl
theorem WO.eV:WO P k S=gH P.eV S.ld S.c0 S.c2 S.cK*(bT P k S*wA P k S):=by unfold WO wA;ac_rfl
theorem WO.di:WO P k S=jm P.di S.di*(bT P k S*BM P k S):=by unfold WO BM;ac_rfl
theorem WO.run:WO P k S=bT P k S*(jn P.run S.run*(iu P S*(iJ P S*kD P k S))):=by unfold WO kD;ac_rfl
variable {O w:ao} {F:HP}
theorem WH.aK {I:WI} (h:V O (WH k I S*F) w):∃P:WP,P.im=I/\V O (WO P k S*F) w:=by obtain⟨P,h⟩:=h.ex;have h:=h.a;exact⟨P,h.bM,h.right⟩
theorem WH.aI {I:WI} (hI:P.im=I) (h:V O (WO P k S*F) w):V O (WH k I S*F) w:=V.bO P ((V.eL hI h).g1)
theorem bT.aK {X:HP} (h:V O (bT P k S*X) w):(P.cf.size=5/\P.cf[2]?=some (aa 2)/\P.bw.length=S.bQ.length)/\V O (ab k (wB P S) 90*(own 128 1 P.hp P.bw.length P.hc (P.bw.map λκ=>al κ.kh)*X)) w:=by have h1:=h.a;exact⟨h1.bM,h1.right.a⟩
theorem bT.aI {X:HP} (hp:P.cf.size=5/\P.cf[2]?=some (aa 2)/\P.bw.length=S.bQ.length) (h:V O (ab k (wB P S) 90*(own 128 1 P.hp P.bw.length P.hc (P.bw.map λκ=>al κ.kh)*X)) w):V O (bT P k S*X) w:=(V.eL hp (h.g1)).g1
theorem SQ (tS:P.cf.size=5) (i:Nat):(wB P S)[5+i]?=(#[af P.hp P.bw.length P.hc,al P.heap,.map (some P.eM),al P.kB,al P.dG,al P.kC,al P.cD,al P.eV,al P.di,ah S.ft,ag (P.run.map λk=>(aD k)),af P.wp S.jM.length P.wc,af P.tp S.told.length P.tc]:aM)[i]?:=by rw[wB,Array.getElem?_append_right (by omega),tS,Nat.add_sub_cancel_left]
theorem WO.cell {i:Nat} {v:Value} (h:V O (WO P k S*F) w) (hv:(#[af P.hp P.bw.length P.hc,al P.heap,.map (some P.eM),al P.kB,al P.dG,al P.kC,al P.cD,al P.eV,al P.di,ah S.ft,ag (P.run.map λk=>(aD k)),af P.wp S.jM.length P.wc,af P.tp S.told.length P.tc]:aM)[i]?=some v):w.cell? ((aD k).add (5+i))=some v:=by have h1:=h.aF (B:=bT P k S*(dO 0 P.bw S.bQ*iX P k S*F)) (by rw[WO.bQ];ac_rfl);obtain⟨⟨tS,_⟩,h2⟩:=bT.aK h1;exact aB h2 (by rw[SQ tS,hv])
theorem WO.set {i:Nat} {v:Value} {K:ao->Prop} {P':WP} {S':WS} {X Y:HP} (hi:i<13) (he:WO P k S=bT P k S*X) (xx:WO P' k S'=bT P' k S'*Y) (h:V O (bT P k S*(X*F)) w) (hb:P.cf.size=5->(wB P S).setIfInBounds (5+i) v=wB P' S') (tS:P'.cf=P.cf) (h1:P'.hp=P.hp) (h2:P'.bw=P.bw) (h3:P'.hc=P.hc) (h4:S'.bQ=S.bQ) (hXY:∀w',V O (bT P' k S'*(X*F)) w'->K w'):st ((aD k).add (5+i)) v w K:=by
 obtain⟨hp,h5⟩:=bT.aK h;rw[du,dc];refine pK h5 (by simp[wB,hp.1];omega) λw' h6=>hXY w' (bT.aI ?_ ?_)
 .rw[tS,h2,h4];exact hp
 .rw[hb hp.1] at h6;rw[h1,h2,h3];exact h6
end
theorem aiX {cf rest:aM} (h:cf.size=5) (i:Nat) (v:Value):(cf++rest).setIfInBounds (5+i) v=cf++rest.setIfInBounds i v:=by apply cT;simp only[rZ,Array.toList_append];rw[lp _ _ (by simp[h]),pW,h,Nat.add_sub_cancel_left]
section
variable {O w:ao} {F:HP} {k:Nat} {S:WS} {P:WP} {I:WI}
theorem bT.set {i:Nat} {v:Value} {X:HP} {K:ao->Prop} {P':WP} {S':WS} (hi:i<13) (h:V O (bT P k S*X) w) (tS:P'.cf=P.cf) (h1:P'.hp=P.hp) (h2:P'.bw=P.bw) (h3:P'.hc=P.hc) (h4:S'.bQ.length=S.bQ.length) (hb:(#[af P.hp P.bw.length P.hc,al P.heap,.map (some P.eM),al P.kB,al P.dG,al P.kC,al P.cD,al P.eV,al P.di,ah S.ft,ag (P.run.map λk=>(aD k)),af P.wp S.jM.length P.wc,af P.tp S.told.length P.tc]:aM).setIfInBounds i v=#[af P'.hp P'.bw.length P'.hc,al P'.heap,.map (some P'.eM),al P'.kB,al P'.dG,al P'.kC,al P'.cD,al P'.eV,al P'.di,ah S'.ft,ag (P'.run.map λk=>(aD k)),af P'.wp S'.jM.length P'.wc,af P'.tp S'.told.length P'.tc]) (hk:∀w',V O (bT P' k S'*X) w'->K w'):st ((aD k).add (5+i)) v w K:=by
 obtain⟨hp,h5⟩:=bT.aK h;rw[du,dc];refine pK h5 (by simp[wB,hp.1];omega) λw' h6=>hk w' (bT.aI ?_ ?_)
 .rw[tS,h2,h4];exact hp
 .rw[wB,aiX hp.1,hb,<-tS] at h6;rw[h1,h2,h3];exact h6
theorem bT.cell {i:Nat} {v:Value} {X:HP} (h:V O (bT P k S*X) w) (hv:(#[af P.hp P.bw.length P.hc,al P.heap,.map (some P.eM),al P.kB,al P.dG,al P.kC,al P.cD,al P.eV,al P.di,ah S.ft,ag (P.run.map λk=>(aD k)),af P.wp S.jM.length P.wc,af P.tp S.told.length P.tc]:aM)[i]?=some v):w.cell? ((aD k).add (5+i))=some v:=by obtain⟨⟨tS,_⟩,h2⟩:=bT.aK h;exact aB h2 (by rw[SQ tS,hv])
theorem x6 {t:TM} {S':WS} (ht:pH S t=some S') (h:V O (WH k I S*F) w):ae 51 #[al k,an (eF t).toArray] w λv w'=>v=aT/\V O (WH k I S'*F) w':=by
 unfold pH at ht;split at ht
 .rename_i aQ;cases ht;obtain⟨P,hI,h⟩:=WH.aK h;have h1:V O (bT P k S*(iJ P S*(jn P.run S.run*(iu P S*kD P k S)*F))) w:=h.aF (by rw[WO.run];ac_rfl);apply ZY;refine aG h1 λk1 w1 h2=> ?_;have h2:=h2.drew;refine aq<|aN (bT.cell (i:=12) h2.p1 rfl)<|bz h2 rfl ⟨rfl,aG h2 λk5 w2 h3=> ?_⟩;have h4:V O (aE 50 6 eF P.tp S.told.length P.tc S.told*(bT P k S*(jn P.run S.run*(iu P S*kD P k S)*F))) w2:=h3.right.right.p1;refine xc (zs:=[t]) (m:=1) Hq m3 D4 h4 (h3.left.uk (sz:=6) (l:=1) rfl) (by simp only[maxLen];omega) (by omega) λp6 c6 w3 h5=>aq ?_;refine bT.set (P':={P with tp:=p6,tc:=c6}) (S':={S with told:=S.told++[t]}) (i:=12) (by decide) h5.p1 rfl rfl rfl rfl rfl (by simp) λw4 h6=>⟨rfl,WH.aI (P:={P with tp:=p6,tc:=c6}) hI ?_⟩;refine h6.aF ?_;rw[WO.run];have e:iJ {P with tp:=p6,tc:=c6} {S with told:=S.told++[t]}=aE 50 6 eF p6 (S.told.length+1) c6 (S.told++[t]):=by simp[iJ]
  rw[e];show bT _ k _*(aE 50 6 eF p6 (S.told.length+1) c6 (S.told++[t])*(jn P.run S.run*(iu P S*kD P k S)*F))=bT _ k _*(jn P.run S.run*(iu P S*(aE 50 6 eF p6 (S.told.length+1) c6 (S.told++[t])*kD P k S)))*F;ac_rfl
 .cases ht
theorem WO.Me (h:V O (WO P k S*F) w):V O (dO 0 P.bw S.bQ*(bT P k S*(iX P k S*F))) w:=h.aF (by rw[WO.bQ];ac_rfl)
theorem WO.Mf (s:List dr) (hs:s.length=S.bQ.length) (h:V O (dO 0 P.bw s*(bT P k S*(iX P k S*F))) w):V O (WO P k {S with bQ:=s}*F) w:=by
 have e:bT P k {S with bQ:=s}=bT P k S:=by simp only[bT,hs];rfl
 rw[WO.bQ,e];exact h.aF (by show dO 0 P.bw s*(bT P k S*(iX P k S*F))=dO 0 P.bw s*(bT P k S*iX P k S)*F;ac_rfl)
theorem WO.wC (h:V O (WO P k S*F) w):V O (gF P.heap S.heap*(bT P k S*(tR P k S*F))) w:=h.aF (by rw[WO.heap];ac_rfl)
theorem WO.zy (s:HS) (h:V O (gF P.heap s*(bT P k S*(tR P k S*F))) w):V O (WO P k {S with heap:=s}*F) w:=by rw[WO.heap];exact h.aF (by show gF P.heap s*(bT P k S*(tR P k S*F))=gF P.heap s*(bT P k S*tR P k S)*F;ac_rfl)
theorem WO.D5 (h:V O (WO P k S*F) w):V O (oB P.eM S.eM*(bT P k S*(BJ P k S*F))) w:=h.aF (by rw[WO.eM];ac_rfl)
theorem WO.SR (s:List (Int×Int)) (h:V O (oB P.eM s*(bT P k S*(BJ P k S*F))) w):V O (WO P k {S with eM:=s}*F) w:=by rw[WO.eM];exact h.aF (by show oB P.eM s*(bT P k S*(BJ P k S*F))=oB P.eM s*(bT P k S*BJ P k S)*F;ac_rfl)
theorem WO.Mg (h:V O (WO P k S*F) w):V O (jC P.dG S.dG*(bT P k S*(BK P k S*F))) w:=h.aF (by rw[WO.dG];ac_rfl)
theorem WO.Mh (s:AS (Int×OR)) (h:V O (jC P.dG s*(bT P k S*(BK P k S*F))) w):V O (WO P k {S with dG:=s}*F) w:=by rw[WO.dG];exact h.aF (by show jC P.dG s*(bT P k S*(BK P k S*F))=jC P.dG s*(bT P k S*BK P k S)*F;ac_rfl)
theorem WO.D6 (h:V O (WO P k S*F) w):V O (iW P.cD S.cD S.sn*(bT P k S*(BL P k S*F))) w:=h.aF (by rw[WO.cD];ac_rfl)
theorem WO.Mi (s:NM) (n:Nat) (h:V O (iW P.cD s n*(bT P k S*(BL P k S*F))) w):V O (WO P k {S with cD:=s,sn:=n}*F) w:=by rw[WO.cD];exact h.aF (by show iW P.cD s n*(bT P k S*(BL P k S*F))=iW P.cD s n*(bT P k S*BL P k S)*F;ac_rfl)
theorem WO.zA (h:V O (WO P k S*F) w):V O (gH P.eV S.ld S.c0 S.c2 S.cK*(bT P k S*(wA P k S*F))) w:=h.aF (by rw[WO.eV];ac_rfl)
theorem WO.wD (ld:Bool) (c0 c2 cK:Int) (h:V O (gH P.eV ld c0 c2 cK*(bT P k S*(wA P k S*F))) w):V O (WO P k {S with ld:=ld,c0:=c0,c2:=c2,cK:=cK}*F) w:=by rw[WO.eV];exact h.aF (by show gH P.eV ld c0 c2 cK*(bT P k S*(wA P k S*F))=gH P.eV ld c0 c2 cK*(bT P k S*wA P k S)*F;ac_rfl)
theorem WO.Hu (h:V O (WO P k S*F) w):V O (jm P.di S.di*(bT P k S*(BM P k S*F))) w:=h.aF (by rw[WO.di];ac_rfl)
theorem WO.Mj (s:AS tH) (h:V O (jm P.di s*(bT P k S*(BM P k S*F))) w):V O (WO P k {S with di:=s}*F) w:=by rw[WO.di];exact h.aF (by show jm P.di s*(bT P k S*(BM P k S*F))=jm P.di s*(bT P k S*BM P k S)*F;ac_rfl)
theorem WO.clear {K:ao->Prop} (h:V O (WO P k S*F) w) (hk:∀w',V O (WO {P with run:=none} k {S with run:=none}*F) w'->K w'):st ((aD k).add 15) (ag none) w K:=by have h1:V O (bT P k S*(jn P.run S.run*(iu P S*(iJ P S*kD P k S)*F))) w:=h.aF (by rw[WO.run];ac_rfl);refine bT.set (P':={P with run:=none}) (S':={S with run:=none}) (i:=10) (by decide) h1 rfl rfl rfl rfl rfl (by simp) λw' h2=>hk w' ?_;rw[WO.run];have h3:=(h2.p1.right).cQ;exact h3.aF (by show cW*(bT {P with run:=none} k {S with run:=none}*(iu P S*(iJ P S*kD P k S)*F))=bT {P with run:=none} k {S with run:=none}*(cW*(iu P S*(iJ P S*kD P k S)))*F;ac_rfl)
theorem gF.aK {b:Nat} {s:HS} (h:V O (gF b s*F) w):dv 1048576 s/\∃a P,V O (Hp.HH b a 1048576 P s*F) w:=by obtain⟨a,h⟩:=h.ex;obtain⟨P,h⟩:=h.ex;have h:=h.a;exact⟨h.bM,a,P,h.right⟩
theorem gF.aI {b a:Nat} {s:HS} {P:Hp.PM} (hs:dv 1048576 s) (h:V O (Hp.HH b a 1048576 P s*F) w):V O (gF b s*F) w:=V.bO a (V.bO P ((V.eL hs h).g1))
def fv (x:LK):aM:=#[aa x.1,ah x.2]
theorem tT {h:Int} (e:hB h=true):0<=h/\h<=18446744073709551615:=by simpa[hB] using e
theorem Mk {x:LK} {r:WS×Int} (hm:xB S x=some r) (h:V O (WH k I S*F) w):ae 197 #[al k,an (fv x)] w λv w'=>v=aa r.2/\V O (WH k I r.1*F) w':=by
 obtain⟨P,hI,h⟩:=WH.aK h;apply aay;unfold xB at hm;split at hm
 .cases hm
 rename_i hb;have hx:=tT (by simpa using hb);refine aG h λk1 w1 h1=>aq<|WO.clear h1.p1 λw2 h2=>az (n:=x.1) (aB h2.p1 (i:=0) rfl) ?_;dsimp only at hm;split at hm
 .rename_i e;cases hm;have h2:=h2.drew;refine aW (by simp[e])<|aq<|bh (WO.cell (i:=1) h2 rfl)<|az (n:=x.2) (aB h2.p1 (i:=1) rfl) ?_;obtain⟨hi,a,PP,h3⟩:=gF.aK (WO.wC h2);refine ay (Hp.Se h3 hi hx.1 hx.2) ?_;rintro _ w3 ⟨rfl,h4⟩;refine⟨_,_,rfl,rfl,?_⟩;have h5:=WO.zy _ (gF.aI (J0 hi).1 h4);exact(WH.aI (P:={P with run:=none}) hI h5).p1.right
 .rename_i e1;split at hm
  .cases hm
  .rename_i e2;cases hm;exact aw (by simpa using e1)<|aw (by simpa using e2) ⟨rfl,(WH.aI (P:={P with run:=none}) hI h2).p1.right⟩
end
def D7 (Q:lQ) (kh:Nat) (aj:Int) (H:dr):HP:=ab kh (gl Q H) 135*(dD Q.ks aj H.ca*(eE Q.kp H.dA*(jB Q.kl Q.rl H.bX H.gU*(mi Q.kq H.ij*jk Q.tp Q.tc H.th))))
def zB (Q:lQ) (kh:Nat) (aj:Int) (H:dr):HP:=ab kh (gl Q H) 135*(ji Q.kr H.fi*(eE Q.kp H.dA*(jB Q.kl Q.rl H.bX H.gU*(mi Q.kq H.ij*jk Q.tp Q.tc H.th))))
def ve (Q:lQ) (kh:Nat) (aj:Int) (H:dr):HP:=ab kh (gl Q H) 135*(ji Q.kr H.fi*(dD Q.ks aj H.ca*(jB Q.kl Q.rl H.bX H.gU*(mi Q.kq H.ij*jk Q.tp Q.tc H.th))))
def BN (Q:lQ) (kh:Nat) (aj:Int) (H:dr):HP:=ab kh (gl Q H) 135*(ji Q.kr H.fi*(dD Q.ks aj H.ca*(eE Q.kp H.dA*(mi Q.kq H.ij*jk Q.tp Q.tc H.th))))
def D8 (Q:lQ) (kh:Nat) (aj:Int) (H:dr):HP:=ab kh (gl Q H) 135*(ji Q.kr H.fi*(dD Q.ks aj H.ca*(eE Q.kp H.dA*(jB Q.kl Q.rl H.bX H.gU*jk Q.tp Q.tc H.th))))
section
variable {O w:ao} {F:HP} {k:Nat} {S:WS} {P:WP}
theorem WO.rW {aj:Int} {H:dr} (hH:ch S aj=some H) (h:V O (WO P k S*F) w):∃(κ:eA) (Q:lQ) (Y:HP),V O (ir Q κ.kh aj H*Y) w/\P.bw[aj.toNat]?=some κ/\0<=aj/\Q.toeA=κ/\(∀H' Q' w',Q'.toeA=κ->V O (ir Q' κ.kh aj H'*Y) w'->V O (WO P k (bV S aj H')*F) w'):=by
 unfold ch at hH;split at hH
 .cases hH
 rename_i h0;have hl:P.bw.length=S.bQ.length:=by have h1:=h.aF (B:=bT P k S*(dO 0 P.bw S.bQ*iX P k S*F)) (by rw[WO.bQ];ac_rfl);exact(bT.aK h1).1.2.2
 obtain⟨kh,X,h1,h2,h3⟩:=dO.pull S.bQ 0 P.bw aj.toNat H hl hH;have hg:=WO.Me h;have ea:0+(aj.toNat:Int)=aj:=by omega
 rw[h2,ea] at hg;have pz:V O (qK kh aj H*(X*(bT P k S*(iX P k S*F)))) w:=hg.a;obtain⟨Q,jQ⟩:=pz.ex;have jQ:=jQ.a;refine⟨kh,Q,_,jQ.right,h1,by omega,jQ.bM,λH' Q' w' hq h'=> ?_⟩;have h4:V O (qK kh aj H'*(X*(bT P k S*(iX P k S*F)))) w':=V.bO Q' ((V.eL hq h').g1);have h5:V O (dO 0 P.bw (S.bQ.set aj.toNat H')*(bT P k S*(iX P k S*F))) w':=by rw[h3 H',ea];exact h4.g1
 exact WO.Mf _ (by simp) h5
theorem WO.SS {aj:Int} {H:dr} (hH:ch S aj=some H) (h:V O (WO P k S*F) w):∃(κ:eA) (Q:lQ) (Y:HP),V O (ir Q κ.kh aj H*Y) w/\P.bw[aj.toNat]?=some κ/\0<=aj/\Q.toeA=κ/\(∀G H' Q' w',Q'.toeA=κ->V O (ir Q' κ.kh aj H'*(Y*G)) w'->V O (WO P k (bV S aj H')*(F*G)) w'):=by
 unfold ch at hH;split at hH
 .cases hH
 rename_i h0;have hl:P.bw.length=S.bQ.length:=by have h1:=h.aF (B:=bT P k S*(dO 0 P.bw S.bQ*iX P k S*F)) (by rw[WO.bQ];ac_rfl);exact(bT.aK h1).1.2.2
 obtain⟨kh,X,h1,h2,h3⟩:=dO.pull S.bQ 0 P.bw aj.toNat H hl hH;have hg:=WO.Me h;have ea:0+(aj.toNat:Int)=aj:=by omega
 rw[h2,ea] at hg;have pz:V O (qK kh aj H*(X*(bT P k S*(iX P k S*F)))) w:=hg.a;obtain⟨Q,jQ⟩:=pz.ex;have jQ:=jQ.a;refine⟨kh,Q,_,jQ.right,h1,by omega,jQ.bM,λG H' Q' w' hq h'=> ?_⟩;have h4:V O (qK kh aj H'*(X*(bT P k S*(iX P k S*(F*G))))) w':=V.bO Q' ((V.eL hq (h'.p1.a.p1.a.p1.a.p2.p3.p4)).g1);have h5:V O (dO 0 P.bw (S.bQ.set aj.toNat H')*(bT P k S*(iX P k S*(F*G)))) w':=by rw[h3 H',ea];exact h4.g1
 exact WO.Mf _ (by simp) h5
theorem WO.lj {aj:Int} {κ:eA} {K:av->Prop} (h:V O (WO P k S*F) w) (hk:P.bw[aj.toNat]?=some κ) (h0:0<=aj) (hK:K (aU κ.kh)):ba P.hp P.bw.length aj 1 λa=>aX a w K:=by have h1:=h.aF (B:=bT P k S*(dO 0 P.bw S.bQ*iX P k S*F)) (by rw[WO.bQ];ac_rfl);obtain⟨_,h2⟩:=bT.aK h1;have hr:=h2.right.left.rd;have aQ:=(ct.1 hk).1;refine fM hr h0 (by omega) λa ha=>bh ?_ hK;rw[jT];exact hr.get ha (by rw[eZ,hk];rfl)
variable {aj:Int} {H:dr} {kh:Nat} {Q:lQ} {Y:HP}
theorem HO.cell {i:Nat} {v:Value} (h:V O (ir Q kh aj H*Y) w) (hv:(gl Q H)[i]?=some v):w.cell? ((aD kh).add i)=some v:=aB (h.a) hv
theorem HO.SU (h:V O (ir Q kh aj H*Y) w):V O (ji Q.kr H.fi*(D7 Q kh aj H*Y)) w:=h.aF (by unfold ir D7;ac_rfl)
theorem HO.SV (s:AS kX) (h:V O (ji Q.kr s*(D7 Q kh aj H*Y)) w):V O (ir Q kh aj {H with fi:=s}*Y) w:=by
 have e:ir Q kh aj {H with fi:=s}=ji Q.kr s*D7 Q kh aj H:=by show ab kh (gl Q H) 135*_=_;unfold D7;ac_rfl
 rw[e];exact h.g1
theorem HO.zC (h:V O (ir Q kh aj H*Y) w):V O (dD Q.ks aj H.ca*(zB Q kh aj H*Y)) w:=h.aF (by unfold ir zB;ac_rfl)
theorem HO.zD (s:AS cC) (h:V O (dD Q.ks aj s*(zB Q kh aj H*Y)) w):V O (ir Q kh aj {H with ca:=s}*Y) w:=by
 have e:ir Q kh aj {H with ca:=s}=dD Q.ks aj s*zB Q kh aj H:=by show ab kh (gl Q H) 135*_=_;unfold zB;ac_rfl
 rw[e];exact h.g1
theorem HO.BO (h:V O (ir Q kh aj H*Y) w):V O (eE Q.kp H.dA*(ve Q kh aj H*Y)) w:=h.aF (by unfold ir ve;ac_rfl)
theorem HO.D9 (s:AS np) (h:V O (eE Q.kp s*(ve Q kh aj H*Y)) w):V O (ir Q kh aj {H with dA:=s}*Y) w:=by
 have e:ir Q kh aj {H with dA:=s}=eE Q.kp s*ve Q kh aj H:=by show ab kh (gl Q H) 135*_=_;unfold ve;ac_rfl
 rw[e];exact h.g1
theorem HO.SW (h:V O (ir Q kh aj H*Y) w):V O (jB Q.kl Q.rl H.bX H.gU*(BN Q kh aj H*Y)) w:=h.aF (by unfold ir BN;ac_rfl)
theorem HO.SX (n:Int) (l:List (Int×Int)) (h:V O (jB Q.kl Q.rl n l*(BN Q kh aj H*Y)) w):V O (ir Q kh aj {H with bX:=n,gU:=l}*Y) w:=by
 have e:ir Q kh aj {H with bX:=n,gU:=l}=jB Q.kl Q.rl n l*BN Q kh aj H:=by show ab kh (gl Q H) 135*_=_;unfold BN;ac_rfl
 rw[e];exact h.g1
theorem HO.aiY (h:V O (ir Q kh aj H*Y) w):V O (mi Q.kq H.ij*(D8 Q kh aj H*Y)) w:=h.aF (by unfold ir D8;ac_rfl)
theorem HO.aiZ (s:List PK) (h:V O (mi Q.kq s*(D8 Q kh aj H*Y)) w):V O (ir Q kh aj {H with ij:=s}*Y) w:=by
 have e:ir Q kh aj {H with ij:=s}=mi Q.kq s*D8 Q kh aj H:=by show ab kh (gl Q H) 135*_=_;unfold D8;ac_rfl
 rw[e];exact h.g1
end
theorem Ea:oM au 82 26 298 (λx:Int=>ah x) (λ_=>True):=AE (by kernel_rfl) (by kernel_rfl)
theorem Ml (w:ao):(zeroValue 298).run au w=.ok (x5 0) w:=by kernel_rfl
theorem ai0 (l:List (Int×Int)) (h:Int):fg (tQ l) h none=tQ (l.filter λp=>p.1≠h):=by
 funext y;unfold fg tQ;by_cases e:y=h
 .subst e;rw[if_pos rfl];have:(l.filter λp=>decide (p.1≠y)).find? (λp=>decide (p.1=y))=none:=by rw[List.find?_eq_none];intro p hp;have:=(Ch.1 hp).2;simpa using this
  rw[this];rfl
 .rw[if_neg e];congr 1;induction l with
  |nil=>rfl
  |cons p l ih=>
   rw[List.filter_cons];by_cases e2:p.1=h
   .rw[if_neg (by simp[e2]),<-ih,EC (by simp[e2];exact λq=>e q.symm)]
   .rw[if_pos (by simp[e2])];by_cases e3:p.1=y
    .rw[List.find?_cons_of_pos (by simp[e3]),List.find?_cons_of_pos (by simp[e3])]
    .rw[EC (by simp[e3]),EC (by simp[e3]),ih]
section
variable {O w:ao} {F:HP} {k:Nat} {S:WS} {P:WP} {I:WI}
theorem WO.ai1 (h:V O (WO P k S*F) w):V O (mZ P.kB*(bT P k S*(Hr P k S*F))) w:=h.aF (by rw[WO.kB];ac_rfl)
theorem WO.ai2 (h:V O (mZ P.kB*(bT P k S*(Hr P k S*F))) w):V O (WO P k S*F) w:=h.aF (by rw[WO.kB];ac_rfl)
theorem WO.SY (h:V O (WO P k S*F) w):V O (lM P.kC*(bT P k S*(Ht P k S*F))) w:=h.aF (by rw[WO.kC];ac_rfl)
theorem WO.SZ (h:V O (lM P.kC*(bT P k S*(Ht P k S*F))) w):V O (WO P k S*F) w:=h.aF (by rw[WO.kC];ac_rfl)
theorem gH.aK {b:Nat} {ld:Bool} {c0 c2 cK:Int} (h:V O (gH b ld c0 c2 cK*F) w):((0<=cK/\cK<=1000001)/\(0<=c0/\c0<=1000000)/\0<=c2/\c2<=1000000)/\V O (dU b jP 1 ⟨ld,c0,c2,cK⟩*F) w:=by have h:=h.a;exact⟨h.bM,h.right⟩
theorem gH.aI {b:Nat} {ld:Bool} {c0 c2 cK:Int} (hp:(0<=cK/\cK<=1000001)/\(0<=c0/\c0<=1000000)/\0<=c2/\c2<=1000000) (h:V O (dU b jP 1 ⟨ld,c0,c2,cK⟩*F) w):V O (gH b ld c0 c2 cK*F) w:=(V.eL hp h).g1
theorem Hv {nY:Int} {up:Bool} {S':WS} (hm:vW S nY up=some S') (h:V O (WO P k S*F) w):ae 56 #[al P.eV,aa 0,aa nY,aC up] w λv w'=>v=aa 0/\V O (WO P k S'*F) w':=by
 obtain⟨hp,h1⟩:=gH.aK (WO.zA h);unfold vW at hm;have main:∀(r':rP),xQ ⟨S.ld,S.c0,S.c2,S.cK⟩ nY up=some r'->S'={S with ld:=r'.ld,c0:=r'.c0,c2:=r'.c2,cK:=r'.cK}->((0<=r'.cK/\r'.cK<=1000001)/\(0<=r'.c0/\r'.c0<=1000000)/\0<=r'.c2/\r'.c2<=1000000)->ae 56 #[al P.eV,aa 0,aa nY,aC up] w λv w'=>v=aa 0/\V O (WO P k S'*F) w':=by rintro r' h2 rfl h3;refine ay (agL h2 h1) ?_;rintro _ w' ⟨rfl,h4⟩;exact⟨rfl,WO.wD _ _ _ _ (gH.aI h3 h4)⟩
 split at hm
 .rename_i e;cases up
  .simp at hm;obtain⟨hc,rfl⟩:=hm;exact main ⟨true,S.c0- 1,S.c2,0⟩ (by simp[xQ,e,hc];omega) (by simp) (by simp;omega)
  .simp at hm;obtain⟨hc,rfl⟩:=hm;exact main ⟨true,S.c0+1,S.c2,0⟩ (by simp[xQ,e,hc];omega) (by simp) (by simp;omega)
 split at hm
 .rename_i e0 e;cases up
  .simp at hm;obtain⟨hc,rfl⟩:=hm;exact main ⟨true,S.c0,S.c2- 1,0⟩ (by simp[xQ,e,hc];omega) (by simp) (by simp;omega)
  .simp at hm;obtain⟨hc,rfl⟩:=hm;exact main ⟨true,S.c0,S.c2+1,0⟩ (by simp[xQ,e,hc];omega) (by simp) (by simp;omega)
 .cases hm
theorem S4 {nY:Int} {up:Bool} {S':WS} (hm:vW S nY up=some S'):S'.bQ=S.bQ:=by
 unfold vW at hm;split at hm
 .split at hm<;>split at hm<;>cases hm<;>rfl
 split at hm
 .split at hm<;>split at hm<;>cases hm<;>rfl
 .cases hm
theorem S6 {gone fo:aJ} {S':WS} {p q:av} {c d:Nat} {aj:Int} (hm:Gf S gone fo=some S') (gx:bd F 1 p gone.length (gone.flatMap bS)) (hl:gone.length<=5000) (h:V O (WH k I S*F) w): ae 85 #[al k,af p gone.length c,af q fo.length d,aa aj] w λv w'=>v=aT/\V O (WH k I S'*F) w':=by
 unfold Gf at hm;split at hm;rotate_left
 .cases hm
 rename_i uA;subst uA;apply Z6;refine⟨λx w' m=>∃(j:Nat) (T:WS),x=j/\j<=gone.length/\m=gone.length- j/\(gone.drop j).foldl (λS h=>S.bind λS=>y6 S h) (some T)=some S'/\V O (WH k I T*F) w',⟨_,0,S,rfl,by omega,rfl,hm,h⟩,?_⟩;clear hm h;rintro u _ w1 m ⟨j,T,rfl,hj,rfl,hm,h1⟩;refine bU (λaQ=> ?_) (λbW=> ?_);rotate_left
 .have e:gone.drop j=[]:=mJ (by omega);rw[e] at hm;cases hm;refine⟨λx w' m=>x=0/\w'=w1,⟨0,rfl,rfl⟩,?_⟩;rintro u _ w2 _ ⟨rfl,rfl⟩;exact aw rfl ⟨rfl,h1⟩
 have hx:gone[j]?=some (gone[j]'(by omega)):=by simp[show j<gone.length by omega]
 rw[ll (by omega),o0] at hm;generalize gone[j]'(by omega)=g at hx hm;obtain⟨T1,fU,hm⟩:∃T1,y6 T g=some T1/\(gone.drop (j+1)).foldl (λS h=>S.bind λS=>y6 S h) (some T1)=some S':=by
  rw[gg] at hm;cases hq:y6 T g with
  |some T1=>rw[hq] at hm;exact⟨T1,rfl,hm⟩
  |none=>
   rw[hq] at hm;have:∀l:aJ,l.foldl (λS h=>S.bind λS=>y6 S h) (none:Option WS)=none:=by
    intro l;induction l with
    |nil=>rfl
    |cons y l ih=>rw[o0];exact ih
   rw[this] at hm;cases hm
 unfold y6 at fU;split at fU
 .cases fU
 rename_i kk hk;split at fU
 .cases fU
 rename_i H hH;obtain⟨T2,og,fU⟩:=bZ.1 fU;have hkF:tQ T.eM g=some kk.2:=by rw[tQ,hk];rfl
 have fQ:=gx _ _ h1.right;obtain⟨P,hI,h1⟩:=WH.aK h1;refine kZ gL (by decide) fQ (by omega) (by rw[cu];exact hx) λa ha=>az (n:=g) (by simpa[Sp.add_zero] using ha 0 _ rfl)<|aq<|kK (WO.cell (i:=2) h1 rfl)<|xj Ea (x:=g) (WO.D5 h1) trivial (Ml w1) ?_;rw[hkF];refine nI<|aG h1 λv7 w2 h2=>bL h2 rfl rfl (by simp[Value.oneCell']) λw3 h3=>aq<|kK (WO.cell (i:=2) h3.p1 rfl)<|Ji Ea (x:=g) rfl (WO.D5 h3.p1) trivial λw4 h4=> ?_;rw[ai0] at h4;have h5:=(WO.SR _ h4).drew;refine aq<|bh (WO.cell (i:=7) h5 rfl)<|az (n:=0) (aB h5.p1 (i:=1) rfl)<|ay (Hv og h5) ?_;rintro _ w5 ⟨rfl,h6⟩;refine bI<|aq<|bh (WO.cell (i:=3) h6 rfl)<|ay (ahD (WO.ai1 h6)) ?_;rintro _ w6 ⟨rfl,h7⟩;have h7:=WO.ai2 h7;refine cR<|aq<|bh (WO.cell (i:=5) h7 rfl)<|ay (ahG (WO.SY h7)) ?_;rintro _ w7 ⟨rfl,h8⟩;have h8:=WO.SZ h8;have h8:=h8.drew;have lR:ch T2 kk.2=some H:=by
  have e:T2.bQ=T.bQ:=by have q:=S4 og;exact q
  unfold ch at hH ⊢;rw[e];exact hH
 obtain⟨kh,Q,Y,h9,gd,h0,hQ,bt⟩:=WO.rW lR h8;refine bI<|aq<|aN (WO.cell (i:=0) h8 rfl)<|az (n:=kk.2) (aB h8.p1 (i:=0) rfl)<|WO.lj h8 gd h0<|aq<|bh (HO.cell h9 (i:=3) rfl)<|ay (aeE (HO.zC h9)) ?_;rintro _ w8 ⟨⟨n,rfl⟩,aV⟩;have bu:=WH.aI hI (bt _ _ _ hQ (HO.zD _ aV));refine bI<|ay (x6 (t:=⟨5,g,0,0,0,0⟩) fU bu) ?_;rintro _ w9 ⟨rfl,bA⟩;refine⟨rfl,aY (by omega) (by omega) ⟨_,?_,j+1,T1,by omega,by omega,rfl,hm,bA.p1.right⟩⟩;omega
end
section
variable {M:NM} {n:Int}
theorem l0.mono {m:Int} (h:l0 M n) (hm:n<=m):l0 M m:=⟨h.m0,h.m1,h.len,h.row,λr k hk=>by have:=h.iG r k hk;omega⟩
theorem l0.send {x:PK} (hM:l0 M n) (hx:jb x) (h0:0<=n) (hn:n<=10000):l0 (sy M x).1 (n+1)/\(sy M x).1.aR=M.aR/\(((sy M x).2.2=0/\(sy M x).1.row.length=M.row.length+1)\/((sy M x).2.2≠0/\(sy M x).1.row.length=M.row.length)):=by
 unfold sy;split
 .exact⟨hM.mono (by omega),rfl,.inr ⟨by simp,rfl⟩⟩
 .rename_i hr;have hr:iF (je x (nx M (x.fr,x.to))):=iA.1 hr;split
  .exact⟨hM.mono (by omega),rfl,.inr ⟨by simp,rfl⟩⟩
  .rename_i hl;have adj:0<=(M.iG (x.fr,x.to)).getD 0/\(M.iG (x.fr,x.to)).getD 0<=n:=by
    cases hs:M.iG (x.fr,x.to) with
    |none=>simp;omega
    |some k=>have:=hM.iG _ _ hs;simp only[Option.getD_some];omega
   have hnx:1<=nx M (x.fr,x.to)/\nx M (x.fr,x.to)<=n+1:=by unfold nx;omega
   refine⟨⟨hM.m0,hM.m1,?_,λy hy=> ?_,λr k hk=> ?_⟩,rfl,.inl ⟨rfl,by simp⟩⟩
   .dsimp only;rw[gp,B8];omega
   .rcases fj.1 hy with hy|hy
    .exact hM.row y hy
    .rw[mL] at hy;subst hy;exact⟨⟨hx.kd,hx.fr,hx.to,⟨by show 0<=nx M (x.fr,x.to);omega,by show nx M (x.fr,x.to)<=18446744073709551615;omega⟩,hx.cl,hx.ip,hx.rk,hx.md,hx.n,hx.cd⟩,hr⟩
   .dsimp only at hk;unfold fg at hk;split at hk
    .cases hk;omega
    .have:=hM.iG r k hk;omega
theorem l0.ai4 {i:Int} (hM:l0 M n):(ia M i).1.aR=M.aR/\(((ia M i).2.2=0/\(ia M i).1.row.length+1=M.row.length)\/((ia M i).2.2≠0/\(ia M i).1.row.length=M.row.length)):=by
 by_cases he:M.row=[]
 .rw[Gd he];exact⟨rfl,.inr ⟨by simp,rfl⟩⟩
 .obtain⟨x,hx,mN⟩:=Ge (i:=i) he;rw[mN];have aQ:=(ct.1 hx).1;exact⟨rfl,.inl ⟨rfl,by dsimp only;rw[EG,if_pos aQ];omega⟩⟩
theorem l0.del {i:Int} (hM:l0 M n):l0 (gM M i).1 n/\jb (gM M i).2.1/\(gM M i).1.aR=M.aR/\(((gM M i).2.2.2=0/\(gM M i).1.row.length+1=M.row.length)\/((gM M i).2.2.2≠0/\(gM M i).1.row.length=M.row.length/\(gM M i).2.2.1=false)):=by
 obtain⟨h1,h2⟩:=hM.J1 (i:=i);obtain⟨h3,h4⟩:=hM.ai4 (i:=i);unfold gM;generalize ia M i=z at h1 h2 h3 h4;split
 .rename_i he;rcases h4 with h4|h4
  .exact⟨⟨h1.m0,h1.m1,h1.len,h1.row,h1.iG⟩,h2,h3,.inl ⟨rfl,h4.2⟩⟩
  .exact absurd he h4.1
 .rename_i he;rcases h4 with h4|h4
  .exact absurd h4.1 he
  .exact⟨h1,h2,h3,.inr ⟨he,h4.2,rfl⟩⟩
end
theorem Hw {x:PK} (h:J3 x=true):jb x:=by simp only[J3,decide_eq_true_eq] at h;obtain⟨a,b,c,d,e,f,g,i,j,l⟩:=h;exact⟨a,b,c,d,e,f,g,i,j,l⟩
theorem Eb {l:aJ} (h:vX l=true):mV l:=by simpa[vX,mV] using h
theorem Mm {x:Int} (h0:0<=x) (h1:x<=18446744073709551615):gr .and .u64 x 1152921504606846975=x%1152921504606846976:=by
 obtain⟨n,rfl⟩:=B5 h0;have e:∀z:Nat,z<2^64->(BitVec.ofInt 64 (z:Int)).toNat=z:=by intro z hz;rw[BitVec.ofInt_natCast,BitVec.toNat_ofNat,zQ hz]
 have hand:n&&& 1152921504606846975=n%1152921504606846976:=Nat.and_two_pow_sub_one_eq_mod n 60;show IntKind.u64.wrap ((BitVec.ofInt 64 (n:Int)&&& BitVec.ofInt 64 ((1152921504606846975:Nat):Int)).toNat:Int)=_;rw[BitVec.toNat_and,e n (by omega),e _ (by decide),hand,s9]
 .simp
 .simp[IntKind.min,IntKind.signed];omega
 .simp only[IntKind.max,IntKind.signed,IntKind.bits];simp only[lS,if_false];omega
theorem S7:∀(n:Nat) (S:HS) (wt gn fo:aJ) (q:HS×aJ×aJ),A9 n S wt gn fo=some q->tF S wt gn fo q
 |n,S,[],gn,fo,q,h=>by
  have e:A9 n S [] gn fo=some (S,gn,fo):=by cases n<;>rfl
  rw[e] at h;cases h;exact .done
 |0,S,x::wt,gn,fo,q,h=>by simp[A9] at h
 |n+1,S,x::wt,gn,fo,q,h=>by
  unfold A9 at h;split at h
  .cases h
  rename_i o ho;exact .step ho rfl (S7 n _ _ _ _ _ h)
section
variable {O w:ao} {F:HP} {k:Nat} {S:WS} {P:WP} {I:WI}
theorem iW.aK {b n:Nat} {M:NM} (h:V O (iW b M n*F) w):(l0 M n/\n<=10000)/\V O (gw b M*F) w:=by have h:=h.a;exact⟨h.bM,h.right⟩
theorem iW.aI {b n:Nat} {M:NM} (hp:l0 M n/\n<=10000) (h:V O (gw b M*F) w):V O (iW b M n*F) w:=(V.eL hp h).g1
theorem Hx {x:PK} {r:WS×Int} {p:av} {c:Nat} (hm:oR S x=some r) (hr:x.rs=[]) (h:V O (WO P k S*F) w):ae 96 #[al P.cD,an (bC x (af p 0 c))] w λv w'=>(∃n,v=ak #[ah n,aa r.2])/\V O (WO P k r.1*F) w':=by
 unfold oR at hm;split at hm;rotate_left
 .cases hm
 rename_i hs;cases hm;obtain⟨⟨hM,hn⟩,h1⟩:=iW.aK (WO.D6 h);refine ay (adi (p:=p) (l:=0) (c:=c) h1 hM (by omega) (Hw hs.2) (by rw[hr];exact bd.nil _ _ _) (by decide)) ?_;rintro _ w' ⟨rfl,h2⟩;exact⟨⟨_,rfl⟩,WO.Mi _ _ (iW.aI ⟨by have:=(l0.send hM (Hw hs.2) (by omega) (by omega)).1;simpa using this,by omega⟩ h2)⟩
theorem Mn {r:yX} {S':WS} {v:Value} {w':ao} {a:Nat} {aj:Int} (hm:Ba S r=some S') (he:r.1≠0->r.2.1=S.heap) (hi:dv 1048576 S.heap) (hI:P.im=I) (ho:Hp.zw O (bT P k S*(tR P k S*F)) P.heap a 1048576 r v w'): ∃p l c q m d e,v=ak #[af p l c,af q m d,aa e]/\(e=0↔r.1=0)/\ae 85 #[al k,af p l c,af q m d,aa aj] w' λv E0=>v=aT/\V O (WH k I S'*F) E0:=by
 unfold Ba at hm;rcases ho with⟨cp,rfl,P',h⟩|⟨hz,r',P',pg,cg,pf,cf,hf,uB,_,_,hl1,vG,rfl,h⟩
 .rw[if_pos cp] at hm;cases hm;rw[he cp] at h;refine⟨_,_,_,_,_,_,_,rfl,Iff.rfl,?_⟩;exact S6 (gone:=[]) (fo:=[]) (S':=S) (by simp[Gf]) (bd.nil _ _ _) (by simp) (WH.aI hI (WO.zy S.heap (gF.aI hi h)))
 .rw[if_neg (by simp[hz])] at hm;obtain⟨q,hq,hm⟩:=bZ.1 hm;have e:=tF.aZ hf (S7 _ _ _ _ _ _ hq);subst e;refine⟨_,_,_,_,_,_,_,rfl,by simp[hz],?_⟩;have h2:V O (Hp.HH P.heap a 1048576 P' r'.1*(bT P k S*(tR P k S*(aE 26 1 bS pg r'.2.1.length cg r'.2.1*(aE 26 1 bS pf r'.2.2.length cf r'.2.2*F))))) w':=h.p4.p4.p4;have h3:=WH.aI hI (WO.zy r'.1 (gF.aI uB h2));refine ay (S6 hm (bd.left bd.own) (by omega) h3) ?_;rintro _ w2 ⟨rfl,h4⟩;exact⟨rfl,h4.p2.right.p1.right⟩
theorem ai6 {aj hn:Int} {S':WS} (hm:J4 S aj hn=some S') (h:V O (WH k I S*F) w):ae 151 #[al k,aa aj,ah hn] w λv w'=>v=aT/\V O (WH k I S'*F) w':=by
 unfold J4 at hm;obtain⟨H,hH,hm⟩:=bZ.1 hm;obtain⟨x,hx,hm⟩:=bZ.1 hm;obtain⟨P,hI,h⟩:=WH.aK h;obtain⟨kh,Q,Y,h1,gd,h0,hQ,bt⟩:=WO.SS hH h;apply aan;refine aq<|aN (WO.cell (i:=0) h rfl)<|WO.lj h gd h0<|aq<|bh (HO.cell h1 (i:=4) rfl) ?_;split at hm
 .cases hm
 rename_i jH;split at hm
 .rename_i pL;split at hm
  .rename_i y hy;obtain⟨r,hs,hm⟩:=dd.1 hm;subst hm;refine ay (ae2 hx pL (by rw[hy];simp) (HO.BO h1)) ?_;rintro _ w1 ⟨p,c,rfl,h2⟩;rw[hy] at h2 ⊢;have h3:V O (eE Q.kp (cI sG H.dA hn).1*(ve Q kh.kh aj H*(Y*aE 164 36 cS p [y].length c [y]))) w1:=h2.e3.e3.e3;have h4:V O (aE 164 36 cS p 1 c [y]*(WO P k (bV S aj {H with dA:=(cI sG H.dA hn).1})*F)) w1:=(bt _ _ _ _ hQ (HO.D9 _ h3)).aF (by show _*(_*aE 164 36 cS p 1 c [y])=_;ac_rfl);refine⟨_,_,_,_,rfl,⟨λi w' m=>(i=0/\m=1/\w'=w1)\/(i=1/\m=0/\V O (WH k I r.1*F) w'),⟨1,.inl ⟨rfl,rfl,rfl⟩⟩,?_⟩⟩;rintro u _ w2 _ (⟨rfl,rfl,rfl⟩|⟨rfl,rfl,h5⟩)
   .refine aW rfl<|dC nO h4.left (by decide) (by decide) (y:=y) rfl λg hg=>vK nO h4.left hg (i:=0) (y:=y) rfl<|aG h4 λrG w3 h5=>bL h5 rfl (by simp[nO]) (by simpa using mR y) λw4 h6=> ?_;have h6:=h6.drew;rw[Oy] at h6;have Mo:=h6.p2;have lF:jb (⟨4,aj,y.1.ox,0,0,ik y,0,y.1.rf,0,[]⟩:PK):=by
     unfold oR at hs;split at hs
     .rename_i q;exact Hw q.2
     .cases hs
    obtain⟨ox1,ox2⟩: -9223372036854775808<=y.1.ox/\y.1.ox<=9223372036854775807:=lF.to;obtain⟨rf1,rf2⟩: -9223372036854775808<=y.1.rf/\y.1.rf<=9223372036854775807:=lF.n;refine aq<|bh (WO.cell (i:=6) Mo rfl)<|az (n:=y.1.ox) (aB h6 (i:=2) rfl)<|aY ox1 ox2<|ff h6 (by rw[dq y.2];decide) ?_;rw[v3];refine az (n:=y.1.rf) (aB h6 (i:=1) rfl)<|aY rf1 rf2 ⟨iO (uV y).1,?_⟩;have ep:((((((((((#[]++#[aa 4])++#[aa aj])++#[aa y.1.ox])++#[ah 0])++#[ah 0])++gA (ik y))++#[aa 0])++#[aa y.1.rf])++#[aa 0])++#[aP])=bC ⟨4,aj,y.1.ox,0,0,ik y,0,y.1.rf,0,[]⟩ aP:=by apply cT;simp[bC,jI,mv,gA]
    rw[ep];refine ay (Hx hs rfl Mo) ?_;rintro _ w5 ⟨⟨n,rfl⟩,h7⟩;refine⟨_,_,rfl,aY (by decide) (by decide) ⟨0,by decide,.inr ⟨rfl,rfl,WH.aI (P:=P) hI ?_⟩⟩⟩;exact(h7.p2.p2.g1).right
   .exact aw rfl ⟨rfl,h5⟩
  .cases hm
 .rename_i pL;cases hm;refine ay (ae3 hx (by omega) (HO.BO h1)) ?_;rintro _ w1 ⟨rfl,h2⟩;have h3:=WH.aI hI ((bt cW _ _ _ hQ (HO.D9 _ (h2.cQ.e3.e3.e3))).e2).Ah;refine⟨_,_,_,_,rfl,⟨λi w' m=>w'=w1/\i=0,⟨0,rfl,rfl⟩,?_⟩⟩;rintro u _ w2 _ ⟨rfl,rfl⟩;exact aw rfl ⟨rfl,h3⟩
theorem ajb {T:HS} {h:Int} (he:(yY T h).1≠0):(yY T h).2.1=T:=by
 unfold yY at he ⊢;split
 .rfl
 .rename_i o ho;rw[ho] at he;exact absurd rfl he
theorem BP {x:LK} {S':WS} (hm:rI S x=some S') (h:V O (WH k I S*F) w):ae 108 #[al k,an (fv x)] w λv w'=>v=aT/\V O (WH k I S'*F) w':=by
 obtain⟨P,hI,h⟩:=WH.aK h;apply aae;unfold rI at hm;split at hm
 .cases hm
 rename_i hb;have hx:=tT (by simpa using hb);refine aG h λk1 w1 h1=>aq<|WO.clear h1.p1 λw2 h2=>az (n:=x.1) (aB h2.p1 (i:=0) rfl) ?_;have tU:({P with run:=none}:WP).im=I:=hI;dsimp only at hm;split at hm
 .rename_i e;have h2:=h2.drew;refine aW (by simp[e])<|aq<|bh (WO.cell (i:=1) h2 rfl)<|az (n:=x.2) (aB h2.p1 (i:=1) rfl) ?_;obtain⟨hi,a,PP,h3⟩:=gF.aK (WO.wC h2);refine ay (Hp.ah9 h3 hi hx.1 hx.2) ?_;rintro v w3 ho;obtain⟨p,l,c,q,m,d,e',rfl,_,Ec⟩:=Mn (P:={P with run:=none}) (S:={S with run:=none}) (I:=I) (aj:=0) hm ajb hi tU ho;refine⟨_,_,_,_,_,_,_,rfl,ay Ec ?_⟩;rintro _ w4 ⟨rfl,h4⟩;exact⟨rfl,rfl,h4.p1.right⟩
 .rename_i e1;split at hm
  .rename_i e2;have ea:Int.fdiv x.2 (2^(min (60:Int).toNat IntKind.u64.bits))=x.2/ 1152921504606846976:=by rw[Int.fdiv_eq_ediv_of_nonneg _ (by decide)];rfl
   refine aw (by simpa using e1)<|aW (by simp[e2])<|az (n:=x.2) (aB h2.p1 (i:=1) rfl) ⟨by decide,?_⟩;rw[ea];refine aY (by omega) (by omega)<|az (n:=x.2) (aB h2.p1 (i:=1) rfl) ?_;have eb:gr .and .u64 x.2 1152921504606846975=x.2%1152921504606846976:=Mm hx.1 hx.2;rw[eb];refine ay (ai6 hm (WH.aI (P:={P with run:=none}) (S:={S with run:=none}) tU h2)) ?_;rintro _ w3 ⟨rfl,h3⟩;exact⟨rfl,rfl,h3.p1.right⟩
  .rename_i e2;cases hm;exact aw (by simpa using e1)<|aw (by simpa using e2) ⟨rfl,(WH.aI (P:={P with run:=none}) (S:={S with run:=none}) tU h2).p1.right⟩
theorem S8 {l:aJ} {S':WS} {p:av} {c:Nat} (hm:Bc S l=some S') (gx:bd F 1 p l.length (l.flatMap bS)) (hl:l.length<=5000) (h:V O (WH k I S*F) w): ae 92 #[al k,af p l.length c] w λv w'=>v=aT/\V O (WH k I S'*F) w':=by
 apply Z8;unfold Bc at hm;refine⟨λx w' m=>∃(j:Nat) (T:WS),x=j/\j<=l.length/\m=l.length- j/\(l.drop j).foldl (λS t=>S.bind λS=>rI S (1,t)) (some T)=some S'/\V O (WH k I T*F) w',⟨_,0,S,rfl,by omega,rfl,hm,h⟩,?_⟩;clear hm h;rintro u _ w1 m ⟨j,T,rfl,hj,rfl,hm,h1⟩;refine bU (λaQ=> ?_) (λbW=> ?_);rotate_left
 .have e:l.drop j=[]:=mJ (by omega);rw[e] at hm;cases hm;exact⟨rfl,h1⟩
 have hx:l[j]?=some (l[j]'(by omega)):=by simp[show j<l.length by omega]
 rw[ll (by omega),o0] at hm;generalize l[j]'(by omega)=g at hx hm;obtain⟨T1,fU,hm⟩:∃T1,rI T (1,g)=some T1/\(l.drop (j+1)).foldl (λS t=>S.bind λS=>rI S (1,t)) (some T1)=some S':=by
  rw[gg] at hm;cases hq:rI T (1,g) with
  |some T1=>rw[hq] at hm;exact⟨T1,rfl,hm⟩
  |none=>
   rw[hq] at hm;have:∀l:aJ,l.foldl (λS t=>S.bind λS=>rI S (1,t)) (none:Option WS)=none:=by
    intro l;induction l with
    |nil=>rfl
    |cons y l ih=>rw[o0];exact ih
   rw[this] at hm;cases hm
 refine kZ gL (by decide) (gx _ _ h1.right) (by omega) (by rw[cu];exact hx) λa ha=>az (n:=g) (by simpa[Sp.add_zero] using ha 0 _ rfl)<|ay (BP (x:=(1,g)) fU h1) ?_;rintro _ w2 ⟨rfl,h2⟩;refine⟨rfl,aY (by omega) (by omega) ⟨_,?_,j+1,T1,by omega,by omega,rfl,hm,h2⟩⟩;omega
end
end Go.Proofs.YtjhnnnfnkjighaaGreatDoor
