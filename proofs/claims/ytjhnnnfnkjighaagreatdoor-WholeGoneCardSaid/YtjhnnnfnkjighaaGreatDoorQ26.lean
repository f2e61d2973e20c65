/- Whole: a part of the proof. No conditions. -/
import Derived.Test.YtjhnnnfnkjighaaGreatDoorQ25
set_option linter.unusedVariables false
set_option linter.unusedSimpArgs false
set_option maxRecDepth 100000
namespace Go.Proofs.YtjhnnnfnkjighaaGreatDoor
open Go.Sp Go.RowKit
theorem alN:fe au 24 4 (aC false) 1 1:=⟨by kernel_rfl,by kernel_rfl,rfl,by decide⟩
def qO (l:List Bool):dB:=l.map (.bool ·)
def kH (p:av) (n c:Nat) (q:av):aM:=#[af p n c,af q 1 1,aa 2,aa 2,aa 1]
def vn (H:HP) (p q:av) (l:List Bool):Prop:=∃(pm:av) (cm:Nat) (ys:List cL),ys.map cL.x=jP/\kj H pm ys/\bd H 1 q 1 [af pm ys.length cm]/\bd H 1 p l.length (qO l)
section
variable {O w:ao} {F:HP}
theorem alO {l:List Bool} {p:av} {c:Nat} (h1:1<=l.length) (h4:l.length<=4) (hg:bd F 1 p l.length (qO l)) (h:V O F w): ae 16 #[af p l.length c] w λv w'=>∃(p' q:av) (c':Nat) (H:HP),v=an (kH p' l.length c' q)/\vn H p' q l/\V O (H*F) w':=by
 apply aaU;refine aG h λk1 w1 h2=>ay (UK h2) ?_;rintro _ w2 ⟨pm,cm,ys,H,rfl,nz,hG,h3⟩;refine nI ⟨rfl,aG h3 λk4 w3 ug=>aG ug λk5 w4 h5=>bL h5 rfl rfl (by simp[Value.oneCell']) λw5 h6=> ?_⟩;have hb:∀j,j<l.length->∃b,l[j]?=some b:=λj hj=>⟨l[j],by simp[hj]⟩;refine⟨λn w' m=>∃(j:Nat) (p2:av) (c2:Nat),n=j/\j<=l.length/\m=l.length- j/\V O (ab k5 (kH p2 j c2 (aU k4)) 59*(own 4 1 p2 j c2 (qO (l.take j))*(ab k4 #[af pm ys.length cm] 69*(H*(ab k1 #[aP,aP,aa 0,aa 0,aa 0] 59*F))))) w',⟨_,0,none,0,rfl,by omega,rfl,(h6.iZ 4 1).aF (by unfold kH;show own 4 1 none 0 0 []*_=_;ac_rfl)⟩,?_⟩;clear h h2 h3 ug h5 h6;rintro u _ w6 m ⟨j,p2,c2,rfl,hj,rfl,h7⟩;refine bU (λaQ=> ?_) (λbW=> ?_)
 .obtain⟨b,ux⟩:=hb j (by omega);have h8:=h7.drew;refine aW (by simp;omega)<|aN (p:=p2) (l:=j) (c:=c2) (aB h8 (i:=0) rfl)<|fM (hg _ _ h8.right.right.right.right.right) (by omega) (by omega) λa ha=>gQ (n:=b) ?_<|aG h8.p1 λrO w7 h9=>oG alN h9 rfl (by simp only[maxLen];omega) (by omega) λp' c' w8 aV=> ?_
  .have:=(hg _ _ h8.right.right.right.right.right).get ha (j:=j) (u:=aC b) (by simp[qO,ux]);simpa using this
  .refine bD (i:=0) aV.p1 (by simp[kH]) λw9 bu=>aY (by omega) (by omega) ⟨_,by omega,j+1,p',c',by omega,by omega,rfl,?_⟩;have e:qO (l.take (j+1))=qO (l.take j)++[aC b]:=by simp[qO,fV,ux]
   rw[e];exact bu.aF (by show ab k5 (kH p' (j+1) c' (aU k4)) 59*(own 4 1 p' (j+1) c' (qO (l.take j)++[aC b])*_)=_;ac_rfl)
 .have e:j=l.length:=by omega
  subst e;rw[j4] at h7;refine aN (p:=p2) (l:=l.length) (c:=c2) (aB h7 (i:=0) rfl)<|aw (beq_eq_false_iff_ne.2 (by omega))<|bz h7 rfl ?_;have h8:=h7.aF (B:=ab k1 #[aP,aP,aa 0,aa 0,aa 0] 59*((own 4 1 p2 l.length c2 (qO l)*(ab k4 #[af pm ys.length cm] 69*H))*(ab k5 (kH p2 l.length c2 (aU k4)) 59*F))) (by ac_rfl);refine bL h8 rfl rfl (by simp[kH,Value.oneCell']) λfF h9=>bz h9 rfl ⟨p2,some (aD k4),c2,own 4 1 p2 l.length c2 (qO l)*(ab k4 #[af pm ys.length cm] 69*H),rfl,⟨pm,cm,ys,nz,kj.right (kj.right hG),bd.right (bd.left (sT rfl rfl)),bd.left bd.own⟩,?_⟩;exact((h9.right).aF (B:=ab k5 (kH p2 l.length c2 (aU k4)) 59*((own 4 1 p2 l.length c2 (qO l)*(ab k4 #[af pm ys.length cm] 69*H))*F)) (by ac_rfl)).right
theorem alP:fe au 81 128 (ag none) 1 8:=⟨by kernel_rfl,by kernel_rfl,rfl,by decide⟩
theorem dO.qp:∀(Hs:List dr) (i:Int) (ks:List eA) (κ:eA) (H:dr),ks.length=Hs.length->dO i (ks++[κ]) (Hs++[H])=dO i ks Hs*qK κ (i+Hs.length) H
 |[],i,[],κ,H,_=>by show qK κ i H*cW=cW*qK κ (i+((0:Nat):Int)) H;rw[show i+((0:Nat):Int)=i by simp];ac_rfl
 |[],_,_::_,_,_,h=>by simp at h
 |_::_,_,[],_,_,h=>by simp at h
 |G::Hs,i,k::ks,κ,H,h=>by have:=dO.qp Hs (i+1) ks κ H (by simpa using h);rw[pX,pX,dO,dO,this,show i+(((G::Hs).length:Nat):Int)=i+1+(Hs.length:Int) by simp;omega];ac_rfl
theorem HV {α:Type} {aR first:Int} {bn:Nat} {h:Int}:bg (⟨aR,first,[],[],bn⟩:AS α) h=none:=by
 unfold bg find;split
 .rfl
 .simp
theorem alQ:dv 1048576 ⟨256,1,[],[],0⟩ where
 ok:=bx.start (by decide) (by decide) (by decide) (by decide);aR:=by decide
 tp:=by decide
 fN:=λh o e=>by rw[HV] at e;cases e
 out:=λh o e=>by rw[HV] at e;cases e
 cj:=λh o e=>by rw[HV] at e;cases e
 nd:=λh o e=>by rw[HV] at e;cases e
theorem alR {κ:eA} {i:Int} {b:Bool} (h:V O (ab κ.kh #[aC b,aC false,al κ.kr,al κ.ks,al κ.kp,al κ.kl,al κ.kq,aP] 135*(Rf.Ar κ.kr ⟨256,1,[],[],0⟩*(dD κ.ks i ⟨1024,1,[],[],0⟩*(eE κ.kp ⟨256,1,[],[],0⟩*(dK κ.kl κ.rl 4 0 (λ_=>none)*(gV κ.kq []*F)))))) w): V O (qK κ i (tK b)*F) w:=by have h1:V O (jk none 0 none*_) w:=h.iZ 278 1;obtain⟨B,hB⟩:∃B,B=ab κ.kh #[aC b,aC false,al κ.kr,al κ.ks,al κ.kp,al κ.kl,al κ.kq,aP] 135:=⟨_,rfl⟩;obtain⟨T,hT⟩:∃T,T=jk none 0 none:=⟨_,rfl⟩;rw[<-hB,<-hT] at h1;have h2:=ji.aI (bx.start (by decide) (by decide) (by decide) (by decide)) (h1.p1.p2);have h3:=jB.aI (l:=[]) ⟨by decide,by decide,λp hp=>by cases hp⟩ (h2.aF (B:=dK κ.kl κ.rl 4 0 (lk [])*(ji κ.kr ⟨256,1,[],[],0⟩*(B*(T*(dD κ.ks i ⟨1024,1,[],[],0⟩*(eE κ.kp ⟨256,1,[],[],0⟩*(gV κ.kq []*F))))))) (by show _=dK κ.kl κ.rl 4 0 (λ_=>none)*_;ac_rfl));have h4:=mi.aI (l:=[]) (q:=[]) rfl (h3.p6);refine V.bO (⟨κ,none,0⟩:lQ) (((h4.p1.p6.p6.p4.p5.g6).eL (p:=(⟨κ,none,0⟩:lQ).toeA=κ) rfl).aF ?_);subst hB hT;rw[<-vC];rfl
end
def wN (p:av) (n c:Nat) (q hp:av) (m d:Nat) (he:av) (kt:Nat) (wk gt rt nt rg lt:av):aM:=
 #[af p n c,af q 1 1,aa 2,aa 2,aa 1,af hp m d,ag he,.map (some kt),ag wk,ag gt,ag rt,ag nt,ag rg,ag lt,ah 0,ag none,aP,aP]
section
variable {O w:ao} {F:HP}
theorem alS {k:Nat} {p q hp:av} {c d:Nat} {bw:List eA} {l:List Bool} {he vo wk gt gta rt nt rg lt hea:Nat} {PP:Hp.PM} (hl:bw.length=l.length) (h:V O (ab k (wN p l.length c q hp l.length d (aU he) vo (aU wk) (aU gt) (aU rt) (aU nt) (aU rg) (aU lt)) 90* (own 128 1 hp l.length d (bw.map λκ=>al κ.kh)*(dO 0 bw (l.map tK)*(dU rg jP 1 ⟨false,0,0,0⟩*(gR (λx:Int=>ah x) x5 (λ_=>True) vo (λ_=>none)*(Hp.HH he hea 1048576 PP ⟨256,1,[],[],0⟩*(mZ wk*(Gi.Gt gt gta ⟨256,1,[],[],0⟩*(lM rt*(gw nt ⟨4096,[],λ_=>none,λ_=>none⟩*(Lt.Ar lt ⟨256,1,[],[],0⟩*F))))))))))) w): V O (WH k ⟨kH p l.length c q,hp,d,bw,he,vo,wk,gt,rt,nt,rg,lt⟩ (qD l)*F) w:=by
 obtain⟨P,hP⟩:∃P:WP,P=⟨kH p l.length c q,hp,d,bw,he,vo,wk,gt,rt,nt,rg,lt,none,none,0,none,0⟩:=⟨_,rfl⟩;have eI:P.im=⟨kH p l.length c q,hp,d,bw,he,vo,wk,gt,rt,nt,rg,lt⟩:=by rw[hP];rfl
 refine WH.aI eI ?_;have eb:wB P (qD l)=wN p l.length c q hp l.length d (aU he) vo (aU wk) (aU gt) (aU rt) (aU nt) (aU rg) (aU lt):=by subst hP;apply cT;simp[wB,wN,kH,qD,hl]
 rw[<-eb] at h;obtain⟨B,hB⟩:∃B,B=ab k (wB P (qD l)) 90*own 128 1 hp l.length d (bw.map λκ=>al κ.kh):=⟨_,rfl⟩;obtain⟨M,hM⟩:∃M,M=dO 0 bw (l.map tK):=⟨_,rfl⟩;have h0:V O (B*(M*(dU rg jP 1 ⟨false,0,0,0⟩*(gR (λx:Int=>ah x) x5 (λ_=>True) vo (λ_=>none)*(Hp.HH he hea 1048576 PP ⟨256,1,[],[],0⟩*(mZ wk*(Gi.Gt gt gta ⟨256,1,[],[],0⟩*(lM rt*(gw nt ⟨4096,[],λ_=>none,λ_=>none⟩*(Lt.Ar lt ⟨256,1,[],[],0⟩*F)))))))))) w:=h.aF (by rw[hB,hM];ac_rfl);have e1:(gR (λx:Int=>ah x) x5 (λ_=>True) vo (λ_=>none):HP)=oB vo []:=rfl;rw[e1] at h0;have r1:=gH.aI (by decide) (h0.p2);have r2:=gF.aI alQ (r1.p4);have r3:=jC.aI (bx.start (by decide) (by decide) (by decide) (by decide)) (r2.p6);have r4:=iW.aI (n:=0) (M:=⟨4096,[],λ_=>none,λ_=>none⟩) ⟨⟨by decide,by decide,by decide,λx hx=>(by cases hx),λr k h=>(by cases h)⟩,by decide⟩ (r3.p8);have r5:=jm.aI (bx.start (by decide) (by decide) (by decide) (by decide)) (r4.p9);have r6:=(r5.iZ 26 1);have r7:=(r6.iZ 50 6).cQ;have Cp:P.cf.size=5/\P.cf[2]?=some (aa 2)/\P.bw.length=(qD l).bQ.length:=by subst hP;exact⟨rfl,rfl,by simp[qD,hl]⟩
 have e2:B=ab k (wB P (qD l)) 90*own 128 1 P.hp P.bw.length P.hc (P.bw.map λκ=>al κ.kh):=by rw[hB];subst hP;show _=_*own 128 1 hp bw.length d (bw.map λκ=>al κ.kh);rw[hl]
 have r8:=r7.eL Cp;refine r8.aF ?_;unfold WO bT;rw[<-e2];subst hP;show _=(bM _*B)*(dO 0 bw (l.map tK)*(gF he ⟨256,1,[],[],0⟩*(oB vo []*(mZ wk*(jC gt ⟨256,1,[],[],0⟩*(lM rt*(iW nt ⟨4096,[],λ_=>none,λ_=>none⟩ 0*(gH rg false 0 0 0*(jm lt ⟨256,1,[],[],0⟩*(cW*(own 26 1 none 0 0 []*own 50 6 none 0 0 [])))))))))))*F;rw[<-hM];ac_rfl
theorem alT {l:List Bool} {p q:av} {c:Nat} (h1:1<=l.length) (h4:l.length<=4) (hc:vn F p q l) (h:V O F w): ae 26 #[an (kH p l.length c q)] w λv w'=>∃(k:Nat) (I:WI),v=ak #[al k,aa 0]/\I.bw.length=l.length/\V O (WH k I (qD l)*F) w':=by
 obtain⟨pm,cm,ys,nz,hG,hq,hp⟩:=hc;apply ZT;refine aG h λk1 w1 h2=>aN (p:=p) (l:=l.length) (c:=c) (aB h2 (i:=0) rfl)<|aw (by simp;omega)<|aN (p:=p) (l:=l.length) (c:=c) (aB h2 (i:=0) rfl)<|aw (by simp;omega)<|az (n:=2) (aB h2 (i:=2) rfl)<|az (n:=2) (aB h2 (i:=3) rfl)<|ay (Pt h2 (by decide) (by decide)) ?_;rintro _ w2 ⟨_,_,rfl,h3⟩;have h3:=h3.right;refine⟨_,_,rfl,aw rfl<|aN (p:=q) (l:=1) (c:=1) (aB h3 (i:=1) rfl)<|az (n:=1) (aB h3 (i:=4) rfl)<|ay (agU (by decide) (by rw[nz];exact Ho) hG.right hq.right h3) ?_⟩;rintro _ w3 ⟨rg,rfl,h5⟩;rw[nz] at h5;refine⟨_,_,rfl,aw rfl<|bz h5.p1 rfl<|xh (λx:Int=>ah x) x5 (λ_=>True) h5 λkt w4 h6=>⟨rfl,?_⟩⟩;have eN:(((((((((((((((#[]++kH p l.length c q)++#[aP])++#[ag none])++#[.map (some kt)])++#[ag none])++#[ag none])++#[ag none])++#[ag none])++#[al rg])++#[ag none])++#[ah 0])++#[ag none])++#[aP])++#[aP]):aM)=wN p l.length c q none 0 0 none kt none none none none (aU rg) none:=by apply cT;simp[kH,wN]
 rw[eN];clear eN;refine aG h6 λk w5 h7=> ?_;refine aN (p:=p) (l:=l.length) (c:=c) (aB h7.p3 (i:=0) rfl) ?_;obtain⟨X,hX⟩:∃X,X=(gR (λx:Int=>ah x) x5 (λ_=>True) kt (λ_=>none)*(dU rg jP 1 ⟨false,0,0,0⟩*(ab k1 (kH p l.length c q) 59*F)):HP):=⟨_,rfl⟩;rw[<-hX] at h7;have ng:∀w' i v,V O X w'->(kH p l.length c q)[i]?=some v->w'.cell? ((aD k1).add i)=some v:=λw' i v hs hv=>by rw[hX] at hs;exact aB hs.p2 hv
 refine⟨λn w' m=>∃(j:Nat) (hp:av) (d:Nat) (bw:List eA),n=j/\j<=l.length/\m=l.length- j/\bw.length=j/\V O (ab k (wN p l.length c q hp j d none kt none none none none (aU rg) none) 90*(own 128 1 hp j d (bw.map λκ=>al κ.kh)*(dO 0 bw ((l.take j).map tK)*X))) w',⟨_,0,none,0,[],rfl,by omega,rfl,rfl,(h7.cQ.iZ 128 1).aF (by show own 128 1 none 0 0 []*_=ab k _ 90*(own 128 1 none 0 0 []*(cW*X));ac_rfl)⟩,?_⟩;clear h h2 h3 h5 h6 h7;rintro u _ w6 m ⟨j,ql,d,bw,rfl,hj,rfl,vV,h7⟩;refine bU (λaQ=> ?_) (λbW=> ?_)
 .obtain⟨b,ux⟩:∃b,l[j]?=some b:=⟨l[j],by simp[show j<l.length by omega]⟩;have hF:bd X 1 p l.length (qO l):=by rw[hX];exact hp.right.right.right
  refine fM (hF _ _ h7.right.right.right) (by omega) (by omega) λa ha=>gQ (n:=b) ?_<|az (n:=2) (ng _ 2 _ h7.right.right.right rfl)<|az (n:=2) (ng _ 3 _ h7.right.right.right rfl)<|ay (Pt h7 (by decide) (by decide)) ?_
  .have:=(hF _ _ h7.right.right.right).get ha (j:=j) (u:=aC b) (by simp[qO,ux]);simpa using this
  rintro _ w7 ⟨kl,rl,rfl,h8⟩;have h8:V O (dK kl rl 4 0 (λ_=>none)*_) w7:=h8;refine⟨_,_,rfl,aG h8 λkh w8 h9=>ay (Rf.tA h9 (by decide) (by decide) (by decide)) ?_⟩;rintro _ w9 ⟨kr,rfl,aV⟩;refine⟨_,_,rfl,bD (i:=2) aV.p1 (by simp) λdn bu=>fx (by omega) (by omega)<|ay (aen (ox:=(j:Int)) bu (by decide) (by decide)) ?_⟩;rintro _ dP ⟨ks,rfl,bA⟩;refine⟨_,_,rfl,bD (i:=3) bA.p1 (by simp) λfF bN=>ay (aeP bN (by decide) (by decide)) ?_⟩;rintro _ fZ ⟨kp,rfl,bY⟩;refine⟨_,_,rfl,bD (i:=4) bY.p1 (by simp) λdH cE=>ay (ae5 cE) ?_⟩;rintro _ kQ ⟨kq,rfl,df⟩;refine⟨_,_,rfl,bD (i:=6) df.p1 (by simp) λnM dZ=> ?_⟩;have fO:=alR (κ:=⟨kh,kr,ks,kp,kl,rl,kq⟩) (i:=(j:Int)) (b:=b) (F:=ab k (wN p l.length c q ql j d none kt none none none none (aU rg) none) 90*(own 128 1 ql j d (bw.map λκ=>al κ.kh)*(dO 0 bw ((l.take j).map tK)*X))) (dZ.aF (by show ab kh #[aC b,aC false,al kr,al ks,al kp,al kl,al kq,aP] 135*_=_;ac_rfl));refine aN (p:=ql) (l:=j) (c:=d) (aB fO.right (i:=5) rfl)<|aG fO.p2 λKU nN fq=>oG alP fq rfl (by simp only[maxLen];omega) (by omega) λp' c' nL jd=> ?_;refine bD (i:=5) (jd.p2) (by simp[wN]) λrp my=>aY (by omega) (by omega) ⟨_,by omega,j+1,p',c',bw++[⟨kh,kr,ks,kp,kl,rl,kq⟩],by omega,by omega,rfl,by simp[vV],?_⟩;have e1:(l.take (j+1)).map tK=(l.take j).map tK++[tK b]:=by simp[fV,ux]
  rw[e1,dO.qp _ _ _ _ _ (by simp[vV];omega),nF];have e2:(0:Int)+(((l.take j).map tK).length:Int)=(j:Int):=by simp;omega
  rw[e2];refine my.aF ?_;show ab k (wN p l.length c q p' (j+1) c' none kt none none none none (aU rg) none) 90*_=_;ac_rfl
 have e:j=l.length:=by omega
 subst e;rw[j4] at h7;refine ay (Hp.ahK (top:=1048576) h7 (by decide) (by decide) (by decide)) ?_;rintro _ w7 ⟨he,hea,rfl,h8⟩;refine⟨_,_,rfl,bD (i:=6) h8.p1 (by simp[wN]) λw8 h9=>ay (ahC h9) ?_⟩;rintro _ w9 ⟨wk,rfl,aV⟩;refine⟨_,_,rfl,bD (i:=8) aV.p1 (by simp[wN]) λdn bu=>ay (Gi.aeL bu (by decide) (by decide)) ?_⟩;rintro _ dP ⟨gt,gta,rfl,bA⟩;refine⟨_,_,rfl,bD (i:=9) bA.p1 (by simp[wN]) λfF bN=>ay (ahE bN) ?_⟩;rintro _ fZ ⟨rt,rfl,bY⟩;refine⟨_,_,rfl,bD (i:=10) bY.p1 (by simp[wN]) λdH cE=>ay (adf cE (by decide) (by decide)) ?_⟩;rintro _ kQ ⟨nt,rfl,df⟩;refine⟨_,_,rfl,bD (i:=11) df.p1 (by simp[wN]) λnM dZ=>ay (Lt.tA dZ (by decide) (by decide) (by decide)) ?_⟩;rintro _ nN ⟨lt,rfl,fO⟩;refine⟨_,_,rfl,bD (i:=13) fO.p1 (by simp[wN]) λnL fq=>⟨k,⟨kH p l.length c q,ql,d,bw,he,kt,wk,gt,rt,nt,rg,lt⟩,rfl,vV,?_⟩⟩;rw[hX] at fq;refine(alS (F:=ab k1 (kH p l.length c q) 59*F) (PP:=λ_=>none) (gta:=gta) (hea:=hea) vV (fq.aF ?_)).p1.right;show ab k (wN p l.length c q ql l.length d (aU he) kt (aU wk) (aU gt) (aU rt) (aU nt) (aU rg) (aU lt)) 90*_=_;ac_rfl
end
end Go.Proofs.YtjhnnnfnkjighaaGreatDoor
namespace Go.Proofs.YtjhnnnfnkjighaaGreatDoor
theorem alU:Qw=some true:=by decide+kernel
def HW:Nat->GM->aJ->Option (GM×aJ)
 |0,g,iw=>some (g,iw)
 |k+1,g,iw=>(Dd g 0).bind λr=>(Bi r.1 ⟨9,0,r.2,0,0,0⟩).bind λc=>(Bi c.1 ⟨10,1,0,c.2,0,0⟩).bind λf=>
  (mg f.1 ⟨11,0,0,c.2,0,0⟩).bind λd=>(mg d.1 ⟨3,0,r.2,0,0,0⟩).bind λe=>HW k e.1 (iw++[f.2])
def HX:Nat->GM->Option (GM×Bool)
 |0,_=>none
 |k+1,g=>if g.w.cD.row=[] then some (g,true) else(mg g ⟨23,0,0,0,0,0⟩).bind λr=>if r.2.2≠0 then some (r.1,false) else HX k r.1
def HY (n:Nat):Nat->GM->Option (GM×Bool)
 |0,g=>some (g,true)
 |k+1,g=>if g.w.heap.bn≠n then some (g,false) else(mg g ⟨25,0,0,0,0,0⟩).bind λr=>(HX 10 r.1).bind λq=>if q.2 then HY n k q.1 else some q
def HZ:Nat->GM->Option GM
 |0,g=>some g
 |k+1,g=>(Dd g 0).bind λr=>HZ k r.1
def H0:aJ->GM->Option (GM×Bool)
 |[],g=>some (g,true)
 |f::l,g=>(Bk g 1 f 5 0 0).bind λt=>match t.2 with
  |none=>some (t.1,false)
  |some u=>if u.code≠10\/u.n≠0 then some (t.1,false) else H0 l t.1
def Na (n fresh:Nat) (pF:Bool):Option Bool:=
 (HW (1+n) ⟨qD [false,pF],[]⟩ []).bind λr=>(HY (1+n) 4 r.1).bind λq=>if q.2=false then some false else if q.1.w.heap.bn≠0 then some false else
  (HZ fresh q.1).bind λg=>(H0 r.2 g).map λz=>z.2&&z.1.l.all λt=>decide (t.kind≠4)
end Go.Proofs.YtjhnnnfnkjighaaGreatDoor
namespace Go.Proofs.YtjhnnnfnkjighaaGreatDoor
open Go.Sp Go.RowKit
theorem vn.left {A B:HP} {p q:av} {l:List Bool} (h:vn A p q l):vn (A*B) p q l:=by obtain⟨pm,cm,ys,h1,h2,h3,h4⟩:=h;exact⟨pm,cm,ys,h1,h2.left,h3.left,h4.left⟩
theorem vn.right {A B:HP} {p q:av} {l:List Bool} (h:vn B p q l):vn (A*B) p q l:=by obtain⟨pm,cm,ys,h1,h2,h3,h4⟩:=h;exact⟨pm,cm,ys,h1,h2.right,h3.right,h4.right⟩
section
variable {O w:ao} {F:HP}
theorem alV {l:List Bool} {p q:av} {c:Nat} (h1:1<=l.length) (h4:l.length<=4) (hc:vn F p q l) (h:V O F w): ae 17 #[an (kH p l.length c q)] w λv w'=>∃(kp k:Nat) (I:WI),v=ak #[al kp,aa 0]/\I.bw.length=l.length/\V O (ab kp (iP k) 80*(WH k I (qD l)*F)) w':=by apply aaV;refine aG h λk1 w1 h2=>bz h2 rfl<|ay (alT h1 h4 hc.right h2) ?_;rintro _ w2 ⟨k,I,rfl,hl,h3⟩;refine⟨_,_,rfl,aw rfl<|aG (h3.p1.right) λkp w3 h5=>⟨kp,k,I,rfl,hl,h5⟩⟩
theorem UL {l:List Bool} {p:av} {c:Nat} (h1:1<=l.length) (h4:l.length<=4) (hg:bd F 1 p l.length (qO l)) (h:V O F w): ae 5 #[af p l.length c] w λv w'=>∃x:GI,v=al x.kg/\x.I.bw.length=l.length/\V O (cM x ⟨qD l,[]⟩*F) w':=by apply aaM;refine ay (alO (c:=c) h1 h4 hg h) ?_;rintro _ w1 ⟨p',q,c',H,rfl,hC,h2⟩;refine nI<|aG h2 λk3 w2 h3=>bL h3 rfl rfl (by simp[kH,Value.oneCell']) λw3 h5=>bz h5 rfl<|ay (alV h1 h4 (vn.right hC.left) h5) ?_;rintro _ w4 ⟨kp,k,I,rfl,hl,h6⟩;refine⟨_,_,rfl,aw rfl<|aw rfl<|aN (p:=p') (l:=l.length) (c:=c') (aB h6.p2 (i:=0) rfl)<|aG h6 λkg w5 h7=>⟨⟨kg,kp,k,I⟩,rfl,hl,?_⟩⟩;have h8:=fE 50 6 eF h7;refine cM.aI (x:=⟨kg,kp,k,I⟩) (g:=⟨qD l,[]⟩) (p:=none) (c:=0) (n:=0) rfl (V.right (A:=ab k3 (kH p' l.length c' q) 59*H) (h8.aF ?_));show _=ab k3 (kH p' l.length c' q) 59*H*(ab kg #[al kp,aa (I.bw.length:Int),aP] 44*_);rw[hl];show _*(ab kg #[al kp,aa (l.length:Int),aP] 44*(ab kp (iP k) 80*(WH k I (qD l)*(ab k3 (kH p' l.length c' q) 59*(H*F)))))=_;dsimp only;ac_rfl
theorem alW (h:V O F w):ae 14 #[] w λv w'=>v=aC true/\V O F w':=by
 have hm:=alU;unfold Qw at hm;obtain⟨r,hr,hm⟩:=bZ.1 hm;obtain⟨m,DH,hm⟩:=bZ.1 hm;obtain⟨p,hp,hm⟩:=bZ.1 hm;obtain⟨t,ht,hm⟩:=bZ.1 hm;split at hm
 .cases hm
 rename_i hz;split at hm
 .cases hm
 rename_i u hu;split at hm
 .cases hm
 rename_i hc;obtain⟨g,hg,hm⟩:=bZ.1 hm;obtain⟨g2,pz,hm⟩:=dd.1 hm;have Nb:Bk p.1 1 p.2 7 0 0=some (t.1,some u):=by rw[ht,<-hu]
 have Aa:r.2≠0:=λe=>hz (.inl e);have MS:m.2≠0:=λe=>hz (.inr (.inl e));have M4:p.2≠0:=λe=>hz (.inr (.inr e));have hn7:u.n=7:=iA.1 λe=>hc (.inl e);have mQ:u.code=0:=iA.1 λe=>hc (.inr e);clear hz hc hu ht;apply aaT;refine aG h λk1 w1 h1=>ay (UL (l:=[false,true]) (c:=2) (by decide) (by decide) (bd.left (sT rfl rfl)) h1) ?_;rintro _ w2 ⟨x,rfl,_,h2⟩;refine gK<|aw rfl<|ay (M9 hr h2) ?_;rintro _ w3 ⟨rfl,h3⟩;refine bI<|ay (HQ (a:=⟨6,0,r.2,0,0,0⟩) (zK (show(6:Int)≠1 by decide)) DH h3) ?_;rintro _ w4 ⟨rfl,h4⟩;refine bI<|ay (HQ (a:=⟨7,1,0,m.2,0,0⟩) (zK (show(7:Int)≠1 by decide)) hp h4) ?_;rintro _ w5 ⟨rfl,h5⟩;refine bI<|ay (UB Nb h5) ?_;rintro _ w6 ⟨rfl,h6⟩;refine⟨_,_,rfl,aG h6 λy5 w7 h7=>bL h7 rfl rfl (by simp[eF,Value.oneCell']) λw8 h8=>aw (beq_eq_false_iff_ne.2 Aa)<|aw (beq_eq_false_iff_ne.2 MS)<|aw (beq_eq_false_iff_ne.2 M4)<|aw rfl<|az (n:=u.n) (aB h8 (i:=3) rfl)<|aw (by simp[hn7])<|az (n:=u.code) (aB h8 (i:=5) rfl)<|aw (by simp[mQ])<|ay (C3 hg h8.right) ?_⟩;rintro _ w9 ⟨rfl,h9⟩;refine⟨rfl,ay (alh pz h9) ?_⟩;rintro _ dn ⟨rfl,aV⟩;refine⟨rfl,ay (alJ (alH hm) aV) ?_⟩;rintro _ dP ⟨rfl,bu⟩;exact cR ⟨rfl,bu.right.right⟩
end
end Go.Proofs.YtjhnnnfnkjighaaGreatDoor
namespace Go.Proofs.YtjhnnnfnkjighaaGreatDoor
def tZ (n:Nat):Bool:=(List.range 9).all λf=>[false,true].all λm=>Na n f m==some true
theorem alY:tZ 0=true:=by decide+kernel
theorem alZ:tZ 1=true:=by decide+kernel
theorem al0:tZ 2=true:=by decide+kernel
theorem al1:tZ 3=true:=by decide+kernel
theorem al2:tZ 4=true:=by decide+kernel
theorem al3:tZ 5=true:=by decide+kernel
theorem al4:tZ 6=true:=by decide+kernel
theorem al5:tZ 7=true:=by decide+kernel
theorem al6:tZ 8=true:=by decide+kernel
theorem al7 {n f:Nat} {m:Bool} (hn:n<9) (hf:f<9):Na n f m=some true:=by
 have h:tZ n=true:=by
  match n,hn with
  |0,_=>exact alY
  |1,_=>exact alZ
  |2,_=>exact al0
  |3,_=>exact al1
  |4,_=>exact al2
  |5,_=>exact al3
  |6,_=>exact al4
  |7,_=>exact al5
  |8,_=>exact al6
  |n+9,h=>omega
 unfold tZ at h;have h1:=se.1 h f (vr.2 hf);have h2:=se.1 h1 m (by cases m<;>decide);exact eq_of_beq h2
end Go.Proofs.YtjhnnnfnkjighaaGreatDoor
namespace Go.Proofs.YtjhnnnfnkjighaaGreatDoor
open Go.Sp Go.RowKit
theorem al8:fe au 25 26 (ah 0) 1 8:=⟨by kernel_rfl,by kernel_rfl,rfl,by decide⟩
section
variable {O w:ao} {F:HP} {x:GI} {g:GM}
theorem UM (h:V O (cM x g*F) w) {K:av->Nat->Nat->ao->Prop} (hK:∀p c w',V O (cM x g*F) w'->K p g.w.heap.bn c w'): nn (aU x.kg) λa=>aX (a.add 0) w λp=>ae 10 #[ag p] w λv w1=>gh v λq=>ae 9 #[ag q] w1 λv w2=>gI v λp l c=>K p l c w2:=by obtain⟨mQ,rE,Y,hw,px⟩:=cM.world h;refine aq<|bh mQ<|ay rE ?_;rintro _ w1 ⟨rfl,rfl⟩;refine gK<|ay (Uu hw) ?_;rintro _ w2 ⟨p,c,rfl,h2⟩;exact iE (hK _ _ _ (px F _ h2))
theorem al9 (h:V O (cM x g*F) w) {K:Int->ao->Prop} (hK:∀w',V O (cM x g*F) w'->K g.w.cD.row.length w'): nn (aU x.kg) λa=>aX (a.add 0) w λp=>ae 10 #[ag p] w λv w1=>gh v λq=>ae 11 #[ag q] w1 λv w2=>gh v λr=>ae 12 #[ag r] w2 λv w3=>bp .i64 v λn=>K n w3:=by obtain⟨mQ,rE,Y,hw,px⟩:=cM.world h;refine aq<|bh mQ<|ay rE ?_;rintro _ w1 ⟨rfl,rfl⟩;refine gK<|ay (Ty hw) ?_;rintro _ w2 ⟨rfl,rfl⟩;refine gK<|ay (Uw hw) ?_;rintro _ w3 ⟨rfl,rfl⟩;exact bI (hK _ h)
theorem ama {n f:Int} {m:Bool} (hn:0<=n/\n<=255) (hf:0<=f/\f<=255) (h:V O F w):ae 3 #[.int .u8 n,.int .u8 f,aC m] w λv w'=>v=aC true/\V O F w':=by
 obtain⟨N,hN⟩:∃N:Nat,n%9=N:=⟨(n%9).toNat,by omega⟩;obtain⟨Q,hQ⟩:∃Q:Nat,f%9=Q:=⟨(f%9).toNat,by omega⟩;have hm:=al7 (n:=N) (f:=Q) (m:=m) (by omega) (by omega);unfold Na at hm;obtain⟨r,hr,hm⟩:=bZ.1 hm;obtain⟨q,hq,hm⟩:=bZ.1 hm;split at hm
 .cases hm
 rename_i vg;split at hm
 .cases hm
 rename_i xX;obtain⟨g5,kG,hm⟩:=bZ.1 hm;obtain⟨z,hz,hm⟩:=dd.1 hm;rw[m6] at hm;have xX:q.1.w.heap.bn=0:=iA.1 xX;have vg:q.2=true:=by simpa using vg
 apply aaL;refine aG h λk1 w1 h1=>ay (UL (l:=[false,m]) (c:=2) (by simp) (by simp) (bd.left (sT rfl rfl)) h1) ?_;rintro _ w2 ⟨x,rfl,_,h2⟩;have h2:=h2.p1.right;refine gK<|aw rfl ⟨λp l c i w' mm=>∃(j:Nat) (g:GM) (iw:aJ),i=j/\j<=1+N/\mm=1+N- j/\l=iw.length/\iw.length=j/\HW (1+N- j) g iw=some r/\V O (cM x g*(own 26 1 p l c (pQ iw)*F)) w',⟨_,0,_,[],rfl,by omega,rfl,rfl,rfl,hr,(h2.iZ 26 1).p1⟩,?_⟩;clear h h1 h2 hr;rintro u p l c _ w3 _ ⟨j,g,iw,rfl,hj,rfl,rfl,iQ,hr,h3⟩;refine uo (by omega) (by decide)<|aY (by omega) (by omega)<|aY (by omega) (by omega)<|bU (λaQ=> ?_) (λbW=> ?_)
 .have e:1+N- j=(1+N- (j+1))+1:=by omega
  rw[e] at hr;unfold HW at hr;obtain⟨r1,fA,hr⟩:=bZ.1 hr;obtain⟨r2,fp,hr⟩:=bZ.1 hr;obtain⟨r3,yT,hr⟩:=bZ.1 hr;obtain⟨r4,hr4,hr⟩:=bZ.1 hr;obtain⟨r5,hr5,hr⟩:=bZ.1 hr;refine ay (M9 fA h3) ?_;rintro _ w4 ⟨rfl,h4⟩;refine bI<|ay (HQ (a:=⟨9,0,r1.2,0,0,0⟩) (zK (show(9:Int)≠1 by decide)) fp h4) ?_;rintro _ w5 ⟨rfl,h5⟩;refine bI<|ay (HQ (a:=⟨10,1,0,r2.2,0,0⟩) (zK (show(10:Int)≠1 by decide)) yT h5) ?_;rintro _ w6 ⟨rfl,h6⟩;refine bI<|aG h6.p1 λLz w7 h7=>oG al8 h7 rfl (by simp only[maxLen];omega) (by omega) λp' c' w8 h8=>ay (tY (a:=⟨11,0,0,r2.2,0,0⟩) (show(11:Int)≠1 by decide) hr4 h8.p1) ?_;rintro _ w9 ⟨_,_,_,_,rfl,rfl,h9⟩;refine⟨_,_,_,_,rfl,ay (tY (a:=⟨3,0,r1.2,0,0,0⟩) (show(3:Int)≠1 by decide) hr5 h9) ?_⟩;rintro _ dn ⟨_,_,_,_,rfl,rfl,aV⟩;refine⟨_,_,_,_,rfl,aY (by omega) (by omega) ⟨_,by omega,j+1,r5.1,iw++[r3.2],by omega,by omega,rfl,by simp,by simp[iQ],hr,?_⟩⟩;have eu:pQ (iw++[r3.2])=pQ iw++[ah r3.2]:=by simp[pQ]
  rw[eu];exact aV
 have e:1+N- j=0:=by omega
 rw[e] at hr;cases hr;have hj:j=1+N:=by omega
 subst hj;dsimp only at hq hz;refine⟨λi w' mm=>∃(j:Nat) (g':GM),i=j/\j<=4/\mm=4- j/\HY (1+N) (4- j) g'=some q/\V O (cM x g'*(own 26 1 p iw.length c (pQ iw)*F)) w',⟨_,0,g,rfl,by omega,rfl,hq,h3⟩,?_⟩;clear h3 hq bW hj e;rintro u _ w4 _ ⟨j,g1,rfl,hj,rfl,hq,h4⟩;refine bU (λaQ=> ?_) (λbW=> ?_)
 .have e:4- j=(4- (j+1))+1:=by omega
  rw[e] at hq;unfold HY at hq;split at hq
  .cases hq;cases vg
  rename_i hc;have hc:g1.w.heap.bn=1+N:=iA.1 hc;obtain⟨r1,fA,hq⟩:=bZ.1 hq;obtain⟨r2,fp,hq⟩:=bZ.1 hq;refine UM h4 λp' c' w5 h5=>aw (by rw[hc,iQ];simp)<|ay (tY (a:=⟨25,0,0,0,0,0⟩) (show(25:Int)≠1 by decide) fA h5) ?_;rintro _ w6 ⟨_,_,_,_,rfl,rfl,h6⟩;refine⟨_,_,_,_,rfl,λw' mm=>∃g3,HX mm g3=some r2/\V O (cM x g3*(own 26 1 p iw.length c (pQ iw)*F)) w',⟨10,r1.1,fp,h6⟩,?_⟩;clear h6 fp;rintro u w7 mm ⟨g3,fp,h7⟩;match mm,fp with
  |mm+1,fp=>
  unfold HX at fp;refine al9 h7 λw8 h8=> ?_;split at fp
  .rename_i e0;cases fp;rw[e0];rw[if_pos rfl] at hq;exact aw rfl<|aY (by omega) (by omega) ⟨_,by omega,j+1,g3,by omega,by omega,rfl,hq,h8⟩
  .rename_i e0;obtain⟨r3,yT,fp⟩:=bZ.1 fp;have e1:0<g3.w.cD.row.length:=List.length_pos_iff.2 e0;refine aW (by simp;omega)<|ay (tY (a:=⟨23,0,0,0,0,0⟩) (show(23:Int)≠1 by decide) yT h8) ?_;rintro _ w9 ⟨_,_,_,_,rfl,rfl,h9⟩;split at fp
   .cases fp;rw[if_neg (by simp)] at hq;cases hq;cases vg
   .rename_i e2;have e2:r3.2.2=0:=iA.1 e2;exact⟨_,_,_,_,rfl,aw (by simp[e2]) ⟨mm,by omega,r3.1,fp,h9⟩⟩
 have e:4- j=0:=by omega
 rw[e] at hq;cases hq;clear hj bW e;refine UM h4 λp' c' w5 h5=>aw (by rw[xX];rfl) ?_;refine⟨λi w' mm=>∃(j:Nat) (g':GM),i=j/\j<=Q/\mm=Q- j/\HZ (Q- j) g'=some g5/\V O (cM x g'*(own 26 1 p iw.length c (pQ iw)*F)) w',⟨_,0,g1,rfl,by omega,rfl,kG,h5⟩,?_⟩;clear h4 h5 kG xX;rintro u _ w6 _ ⟨j,g2,rfl,hj,rfl,kG,h6⟩;refine uo (by omega) (by decide)<|aY (by omega) (by omega)<|bU (λaQ=> ?_) (λbW=> ?_)
 .have e:Q- j=(Q- (j+1))+1:=by omega
  rw[e] at kG;unfold HZ at kG;obtain⟨r1,fA,kG⟩:=bZ.1 kG;refine ay (M9 fA h6) ?_;rintro _ w7 ⟨rfl,h7⟩;exact bI<|aY (by omega) (by omega) ⟨_,by omega,j+1,r1.1,by omega,by omega,rfl,kG,h7⟩
 have e:Q- j=0:=by omega
 rw[e] at kG;cases kG;clear hj bW e;refine⟨λi w' mm=>∃(j:Nat) (g':GM),i=j/\j<=iw.length/\mm=iw.length- j/\H0 (iw.drop j) g'=some z/\V O (cM x g'*(own 26 1 p iw.length c (pQ iw)*F)) w',⟨_,0,_,rfl,by omega,rfl,hz,h6⟩,?_⟩;clear h6 hz;rintro u _ w7 _ ⟨j,g3,rfl,hj,rfl,hz,h7⟩;refine bU (λaQ=> ?_) (λbW=> ?_)
 .have iM:j<iw.length:=by omega
  rw[ll iM] at hz;unfold H0 at hz;obtain⟨t,ht,hz⟩:=bZ.1 hz;split at hz
  .cases hz;cases hm.1
  rename_i y hy;split at hz
  .cases hz;cases hm.1
  rename_i hc;have Nb:Bk g3 1 iw[j] 5 0 0=some (t.1,some y):=by rw[ht,<-hy]
  have jH:y.code=10:=iA.1 λe=>hc (.inl e);have pL:y.n=0:=iA.1 λe=>hc (.inr e);have fQ:Rd w7 1 p iw.length (pQ iw):=bd.own _ _ h7.right.left;refine fM fQ (by omega) (by omega) λa ha=>az (n:=iw[j]) ?_<|ay (UB Nb h7) ?_
  .have:=fQ.get ha (j:=j) (u:=ah iw[j]) (by simp[pQ,iM]);simpa using this
  rintro _ w8 ⟨rfl,h8⟩;exact⟨_,_,rfl,aG h8 λk88 w9 h9=>bL h9 rfl rfl (by simp[eF,Value.oneCell']) λdn aV=>aw rfl<|az (n:=y.code) (aB aV (i:=5) rfl)<|aw (by simp[jH])<|az (n:=y.n) (aB aV (i:=3) rfl)<|aw (by simp[pL])<|aY (by omega) (by omega) ⟨_,by omega,j+1,t.1,by omega,by omega,rfl,hz,aV.right⟩⟩
 have e:iw.drop j=[]:=by simp;omega
 rw[e] at hz;cases hz;clear hj bW e;have lU:=hm.2;refine⟨λi w' mm=>∃j:Nat,i=j/\j<=g3.l.length/\mm=g3.l.length- j/\V O (cM x g3*(own 26 1 p iw.length c (pQ iw)*F)) w',⟨_,0,rfl,by omega,rfl,h7⟩,?_⟩;clear h7;rintro u _ w8 _ ⟨j,rfl,hj,rfl,h8⟩;obtain⟨p2,c2,h9⟩:=cM.aK h8;have hbound:(g3.l.length:Int)<=9223372036854775807:=by
  have h5:V O (own 50 6 p2 g3.l.length c2 (g3.l.flatMap eF)) w8:=h9.right.left;rcases h5.po.2 with⟨_,e⟩|⟨g',cap,cur,e,_,_,q1,q2,_⟩
  .omega
  .simp only[maxLen] at q2;omega
 refine aq<|aN (p:=p2) (l:=g3.l.length) (c:=c2) (aB h9 (i:=2) rfl)<|bU (λaQ=> ?_) (λbW=> ?_)
 .have iM:j<g3.l.length:=by omega
  have hy:g3.l[j]?=some g3.l[j]:=by simp[iM]
  have hk:g3.l[j].kind≠4:=by simpa using se.1 lU g3.l[j] (sd iM)
  refine aq<|aN (p:=p2) (l:=g3.l.length) (c:=c2) (aB h9 (i:=2) rfl)<|dC m3 h9.right.left (by decide) (by omega) (y:=g3.l[j]) (by rw[cu];exact hy) λgb hg=>az (n:=g3.l[j].kind) ?_<|aw (beq_eq_false_iff_ne.2 hk)<|aY (by omega) (by omega) ⟨_,by omega,j+1,by omega,by omega,rfl,h8⟩;have:=cU m3 (j:=0) h9.right.left hg (i:=j) (y:=g3.l[j]) hy (by decide) rfl;simpa[du] using this
 .refine ay (alW h8) ?_;rintro _ w9 ⟨rfl,aV⟩;exact cR ⟨rfl,aV.right.right⟩
end
theorem anq {W:ao} {n f:Int} {m:Bool} (hn:0<=n/\n<=255) (hf:0<=f/\f<=255):ae 3 #[.int .u8 n,.int .u8 f,aC m] W λv w'=>v=aC true/\Below W.heap.size W w':=ay (ama hn hf (V.start W)) λ_ _ h=>⟨h.1,h.2.abA⟩
end Go.Proofs.YtjhnnnfnkjighaaGreatDoor
