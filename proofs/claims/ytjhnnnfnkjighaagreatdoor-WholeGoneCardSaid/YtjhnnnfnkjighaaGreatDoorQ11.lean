/- Whole: a part of the proof. No conditions. -/
import Derived.Test.YtjhnnnfnkjighaaGreatDoorQ10
import Derived.ArgAppend
set_option linter.unusedVariables false
set_option linter.unusedSimpArgs false
set_option maxRecDepth 100000
namespace Go.Proofs.YtjhnnnfnkjighaaGreatDoor
open Go.Sp Go.RowKit
structure bK (α:Type) where
 x:α
 g:Int
 st:Int
structure AS (α:Type) where
 aR:Int
 first:Int
 sp:List (bK α)
 fr:List Nat
 bn:Nat
variable {α:Type}
structure bx (s:AS α):Prop where
 yO:1<=s.aR
 ie:s.aR<=65536
 qu:1<=s.first
 qv:s.first<=4294967295
 len:(s.sp.length:Int)<=s.aR
 g:∀y∈s.sp,1<=y.g/\y.g<=4294967295
 fr:∀i∈s.fr,∃y,s.sp[i]?=some y/\y.st=0
 nd:s.fr.Nodup
 bn:s.bn=s.sp.countP (·.st==1)
 lE:s.bn+s.fr.length<=s.sp.length
def hd (i:Nat) (g:Int):Int:=g*4294967296+i+1
def put (s:AS α) (x:α):(AS α)×Int×Int:=
 match s.fr.getLast? with
 |some i=>match s.sp[i]? with
  |some y=>(⟨s.aR,s.first,s.sp.set i ⟨x,y.g,1⟩,s.fr.dropLast,s.bn+1⟩,hd i y.g,0)
  |none=>(s,0,3)
 |none=>if(s.sp.length:Int)=s.aR then(s,0,3) else(⟨s.aR,s.first,s.sp++[⟨x,s.first,1⟩],s.fr,s.bn+1⟩,hd s.sp.length s.first,0)
theorem nQ {s:(AS α)} (hs:bx s) (x:α): (∃fr i y,s.fr=fr++[i]/\s.sp[i]?=some y/\y.st=0/\put s x=(⟨s.aR,s.first,s.sp.set i ⟨x,y.g,1⟩,fr,s.bn+1⟩,hd i y.g,0))\/ (s.fr=[]/\(s.sp.length:Int)=s.aR/\put s x=(s,0,3))\/ (s.fr=[]/\(s.sp.length:Int)<s.aR/\put s x=(⟨s.aR,s.first,s.sp++[⟨x,s.first,1⟩],[],s.bn+1⟩,hd s.sp.length s.first,0)):=by
 have hl:=hs.len;rcases List.eq_nil_or_concat s.fr with hf|⟨fr,i,hf⟩
 .right;by_cases he:(s.sp.length:Int)=s.aR
  .exact .inl ⟨hf,he,by simp[put,hf,he]⟩
  .exact .inr ⟨hf,by omega,by simp[put,hf,he]⟩
 .left;rw[List.concat_eq_append] at hf;obtain⟨y,hy,h0⟩:=hs.fr i (by simp[hf]);exact⟨fr,i,y,hf,hy,h0,by simp[put,hf,hy]⟩
def find (s:(AS α)) (h:Int):Option Nat:=
 if h%4294967296=0 then none else
 match s.sp[(h%4294967296- 1).toNat]? with
 |some y=>if y.st=1/\y.g=h/ 4294967296 then some (h%4294967296- 1).toNat else none
 |none=>none
theorem l6 {s:(AS α)} (hs:bx s) {h:Int} {i:Nat}:find s h=some i↔∃y,s.sp[i]?=some y/\y.st=1/\h=hd i y.g:=by
 have hl:=hs.len;have hm:=hs.ie;unfold find hd;constructor
 .intro e;split at e
  .cases e
  split at e
  .rename_i y hy;split at e
   .rename_i hc;cases e;exact⟨y,hy,hc.1,by omega⟩
   .cases e
  .cases e
 .rintro⟨y,hy,h1,rfl⟩;have aQ:=(ct.1 hy).1;have e1:(y.g*4294967296+i+1)%4294967296=i+1:=by omega
  have e2:(y.g*4294967296+i+1)/ 4294967296=y.g:=by omega
  have e3:((i:Int)+1- 1).toNat=i:=by omega
  rw[e1,e2,e3,if_neg (by omega),hy];simp[h1]
def jX (z:α) (s:AS α) (i:Nat):AS α:=
 match s.sp[i]? with
 |some y=>if y.g<4294967295 then⟨s.aR,s.first,s.sp.set i ⟨z,y.g+1,0⟩,s.fr++[i],s.bn- 1⟩ else⟨s.aR,s.first,s.sp.set i ⟨z,y.g,2⟩,s.fr,s.bn- 1⟩
 |none=>s
theorem JF {β:Type} {P:β->Bool} {ys:List β} {i:Nat} {y y':β} (h:ys[i]?=some y):(ys.set i y').countP P+(if P y then 1 else 0)=ys.countP P+(if P y' then 1 else 0):=by
 induction ys generalizing i with
 |nil=>simp at h
 |cons z ys ih=>
  cases i with
  |zero=>simp only[B3,Option.some.injEq] at h;subst h;simp only[Cd,List.countP_cons];omega
  |succ i=>have:=ih (by simpa using h);simp only[zO,List.countP_cons];omega
theorem xu {β:Type} {P:β->Bool} {ys:List β} {i:Nat} {y:β} (h:ys[i]?=some y) (hp:P y=true):0<ys.countP P:=List.countP_pos_iff.2 ⟨y,dF h,hp⟩
theorem JG {β:Type} {ys:List β} {i j:Nat} {y z:β} (h:(ys.set i z)[j]?=some y):(j=i/\y=z)\/(j≠i/\ys[j]?=some y):=by
 rw[jR] at h;by_cases e:i=j
 .rw[if_pos e] at h;split at h
  .cases h;exact .inl ⟨e.symm,rfl⟩
  .cases h
 .rw[if_neg e] at h;exact .inr ⟨λh=>e h.symm,h⟩
theorem bx.start {aR first:Int} (h0:1<=aR) (h1:aR<=65536) (h2:1<=first) (h3:first<=4294967295):bx (⟨aR,first,[],[],0⟩:AS α):=⟨h0,h1,h2,h3,by simp;omega,by simp,by simp,by simp,by simp,by simp⟩
theorem bx.put {s:(AS α)} (hs:bx s) (x:α):bx (put s x).1:=by
 rcases nQ hs x with⟨fr,i,y,cv,hy,dk,bt⟩|⟨cv,fy,bt⟩|⟨cv,fy,bt⟩
 .rw[bt];have aQ:=(ct.1 hy).1;have fm:=hs.nd;rw[cv] at fm;have yP:i∉fr:=λhm=>(sb.1 fm).2.2 i hm i (.head _) rfl;have hc:=JF (P:=λz:(bK α)=>z.st==1) (y':=⟨x,y.g,1⟩) hy;have hb:=hs.lE;have hk:=hs.bn;simp only[dk] at hc;refine⟨hs.yO,hs.ie,hs.qu,hs.qv,by simpa using hs.len,λz hz=> ?_,λj hj=> ?_,(sb.1 fm).1,?_,?_⟩
  .rcases pS hz with hz|rfl
   .exact hs.g z hz
   .exact hs.g y (dF hy)
  .obtain⟨z,hz,h0⟩:=hs.fr j (by simp[cv,hj]);have:i≠j:=λe=>yP (e▸hj);exact⟨z,by simp[jR,this,hz],h0⟩
  .simp at hc;show s.bn+1=(s.sp.set i ⟨x,y.g,1⟩).countP (λz:(bK α)=>z.st==1);omega
  .rw[cv] at hb;simp at hb ⊢;omega
 .rw[bt];exact hs
 .rw[bt];have hb:=hs.lE;have hk:=hs.bn;refine⟨hs.yO,hs.ie,hs.qu,hs.qv,by simp;omega,λz hz=> ?_,by simp,by simp,?_,?_⟩
  .rcases fj.1 hz with hz|hz
   .exact hs.g z hz
   .rw[mL] at hz;subst hz;exact⟨hs.qu,hs.qv⟩
  .show s.bn+1=_;rw[List.countP_append,<-hk];rfl
  .simp at hb ⊢;omega
theorem l8 {z:α} {s:(AS α)} {i:Nat} {y:(bK α)} (hy:s.sp[i]?=some y): (y.g<4294967295/\jX z s i=⟨s.aR,s.first,s.sp.set i ⟨z,y.g+1,0⟩,s.fr++[i],s.bn- 1⟩)\/(¬y.g<4294967295/\jX z s i=⟨s.aR,s.first,s.sp.set i ⟨z,y.g,2⟩,s.fr,s.bn- 1⟩):=by
 by_cases h:y.g<4294967295
 .exact .inl ⟨h,by simp[jX,hy,h]⟩
 .exact .inr ⟨h,by simp[jX,hy,h]⟩
theorem bx.drop {z:α} {s:(AS α)} (hs:bx s) {i:Nat} {y:(bK α)} (hy:s.sp[i]?=some y) (h1:y.st=1):bx (jX z s i):=by
 have aQ:=(ct.1 hy).1;have yP:i∉s.fr:=λhm=>by obtain⟨zz,hz,h0⟩:=hs.fr i hm;rw[hy] at hz;cases hz;omega
 have hb:=hs.lE;have hk:=hs.bn;have hp:=xu (P:=λzz:bK α=>zz.st==1) hy (by simp[h1]);have rz:=hs.g y (dF hy);rcases l8 (z:=z) hy with⟨hg,hd⟩|⟨hg,hd⟩
 .rw[hd];have hc:=JF (P:=λzz:bK α=>zz.st==1) (y':=⟨z,y.g+1,0⟩) hy;simp[h1] at hc;refine⟨hs.yO,hs.ie,hs.qu,hs.qv,by simpa using hs.len,λzz hz=> ?_,λj hj=> ?_,?_,?_,?_⟩
  .rcases pS hz with hz|rfl
   .exact hs.g zz hz
   .show 1<=y.g+1/\y.g+1<=4294967295;omega
  .rcases fj.1 hj with hj|hj
   .obtain⟨zz,hz,h0⟩:=hs.fr j hj;have:i≠j:=λe=>yP (e▸hj);exact⟨zz,by simp[jR,this,hz],h0⟩
   .rw[mL] at hj;subst hj;exact⟨⟨z,y.g+1,0⟩,by simp[aQ],rfl⟩
  .refine sb.2 ⟨hs.nd,by simp,λa ha b hb e=> ?_⟩;rw[mL] at hb;rw[e,hb] at ha;exact yP ha
  .show s.bn- 1=(s.sp.set i ⟨z,y.g+1,0⟩).countP (λzz:bK α=>zz.st==1);omega
  .simp at hb ⊢;omega
 .rw[hd];have hc:=JF (P:=λzz:bK α=>zz.st==1) (y':=⟨z,y.g,2⟩) hy;simp[h1] at hc;refine⟨hs.yO,hs.ie,hs.qu,hs.qv,by simpa using hs.len,λzz hz=> ?_,λj hj=> ?_,hs.nd,?_,?_⟩
  .rcases pS hz with hz|rfl
   .exact hs.g zz hz
   .exact rz
  .obtain⟨zz,hz,h0⟩:=hs.fr j hj;have:i≠j:=λe=>yP (e▸hj);exact⟨zz,by simp[jR,this,hz],h0⟩
  .show s.bn- 1=(s.sp.set i ⟨z,y.g,2⟩).countP (λzz:bK α=>zz.st==1);omega
  .simp at hb ⊢;omega
def cI (z:α) (s:AS α) (h:Int):AS α×α×Int:=
 match(find s h).bind λi=>(s.sp[i]?).map λy=>(jX z s i,y.x,(0:Int)) with
 |some r=>r
 |none=>(s,z,2)
theorem yQ {z:α} {s:AS α} {h:Int} (hf:find s h=none):cI z s h=(s,z,2):=by simp[cI,hf]
theorem uH {z:α} {s:AS α} {h:Int} {i:Nat} {y:bK α} (hf:find s h=some i) (hy:s.sp[i]?=some y):cI z s h=(jX z s i,y.x,0):=by simp[cI,hf,hy]
theorem bx.cI {z:α} {s:AS α} (hs:bx s) (h:Int):bx (cI z s h).1:=by
 cases hf:find s h with
 |none=>rw[yQ hf];exact hs
 |some i=>obtain⟨y,hy,h1,_⟩:=(l6 hs).1 hf;rw[uH hf hy];exact hs.drop hy h1
theorem yR {i j:Nat} {g g':Int} (hi:i<4294967295) (hj:j<4294967295) (h:hd i g=hd j g'):i=j/\g=g':=by unfold hd at h;omega
def cN {β:Type} (f:α->β) (s:AS α):AS β:=⟨s.aR,s.first,s.sp.map λy=>⟨f y.x,y.g,y.st⟩,s.fr,s.bn⟩
theorem FY {s:(AS α)} (hs:bx s) (h:Int):(find s h=none/\(find s h).bind (s.sp[·]?)=none)\/∃i y,find s h=some i/\s.sp[i]?=some y/\y.st=1/\(find s h).bind (s.sp[·]?)=some y:=by
 cases hf:find s h with
 |none=>exact .inl ⟨rfl,rfl⟩
 |some i=>obtain⟨y,hy,h1,_⟩:=(l6 hs).1 hf;exact .inr ⟨i,y,rfl,hy,h1,by rw[gg,hy]⟩
theorem JH {s:(AS α)} {x:α} (hs:bx s):(put s x).1.aR=s.aR:=by rcases nQ hs x with⟨fr,j,z,cv,hz,dk,bt⟩|⟨cv,fy,bt⟩|⟨cv,fy,bt⟩<;>rw[bt]
theorem PG {z:α} {s:(AS α)} {i:Nat} {y:(bK α)} (hy:s.sp[i]?=some y):(jX z s i).aR=s.aR:=by rcases l8 (z:=z) hy with⟨_,h⟩|⟨_,h⟩<;>rw[h]
def fH:Nat->List (bK α)->aJ
 |_,[]=>[]
 |i,y::ys=>if y.st=1 then hd i y.g::fH (i+1) ys else fH (i+1) ys
theorem PH (ys:List (bK α)):∀i,(fH i ys).length=ys.countP (·.st==1):=by
 induction ys with
 |nil=>intro i;rfl
 |cons z ys ih=>
  intro i;rw[fH,List.countP_cons];split
  .rename_i h;simp[ih,h]
  .rename_i h;simp[ih,h]
def cq:Nat->List (bK α)->List (Nat×(bK α))
 |_,[]=>[]
 |i,y::ys=>if y.st=1 then(i,y)::cq (i+1) ys else cq (i+1) ys
theorem sB (ys:List (bK α)) (y:(bK α)):∀i,cq i (ys++[y])=cq i ys++(if y.st=1 then [(i+ys.length,y)] else []):=by
 induction ys with
 |nil=>intro i;simp[cq]
 |cons z ys ih=>
  intro i;rw[pX,cq,cq,ih];have e:i+1+ys.length=i+(z::ys).length:=by simp;omega
  rw[e];split<;>rfl
theorem AR (ys zs:List (bK α)):∀i,cq i (ys++zs)=cq i ys++cq (i+ys.length) zs:=by
 induction ys with
 |nil=>intro i;simp[cq]
 |cons y ys ih=>
  intro i;rw[pX,cq,cq,ih];have e:i+1+ys.length=i+(y::ys).length:=by simp;omega
  rw[e];split<;>rfl
theorem JI (ys:List (bK α)):∀(i j:Nat) (p:Nat×(bK α)),(cq i ys)[j]?=some p->i<=p.1/\ys[p.1- i]?=some p.2/\p.2.st=1:=by
 induction ys with
 |nil=>intro i j p h;simp[cq] at h
 |cons y ys ih=>
  intro i j p h;rw[cq] at h;have key:∀j:Nat,(cq (i+1) ys)[j]?=some p->i<=p.1/\(y::ys)[p.1- i]?=some p.2/\p.2.st=1:=by intro j h;obtain⟨h1,h2,h3⟩:=ih (i+1) j p h;refine⟨by omega,?_,h3⟩;rw[show p.1- i=p.1- (i+1)+1 by omega,EB];exact h2
  split at h
  .rename_i hy;cases j with
   |zero=>simp at h;subst h;exact⟨eJ _,by simp,hy⟩
   |succ j=>exact key j (by simpa using h)
  .exact key j h
theorem qw (ys:List (bK α)):∀i,fH i ys=(cq i ys).map λp=>hd p.1 p.2.g:=by
 induction ys with
 |nil=>intro i;rfl
 |cons y ys ih=>intro i;rw[fH,cq,ih];split<;>rfl
theorem JJ (ys:List (bK α)) (i:Nat):(cq i ys).length=ys.countP (·.st==1):=by rw[<-PH ys i,qw,fk]
end Go.Proofs.YtjhnnnfnkjighaaGreatDoor
namespace Go.Proofs.YtjhnnnfnkjighaaGreatDoor
open Go.Sp Go.RowKit
theorem nR:fe au 167 3 (aa 0) 1 8:=⟨by kernel_rfl,by kernel_rfl,rfl,by decide⟩
theorem uI:fe au 25 26 (ah 0) 1 8:=⟨by kernel_rfl,by kernel_rfl,rfl,by decide⟩
theorem adu (xs:aJ):xs.flatMap bS=xs.map λx=>ah x:=by
 induction xs with
 |nil=>rfl
 |cons x xs ih=>simp[bS,ih]
section
variable {O w:ao} {F Q:HP} {gf:FuncId} {lb:aM} {xs:aJ}
def sC (k1:Nat) (xs:aJ) (Q:HP) (j:Nat):HP:=ex λp=>ex λc=>bM (j<=xs.length)*(ab k1 #[af p j c] 25*(aE 26 1 bS p j c (xs.take j)*Q))
theorem sC.aK {k1 j:Nat} (h:V O (sC k1 xs Q j*F) w):j<=xs.length/\∃p c,V O (ab k1 #[af p j c] 25*(aE 26 1 bS p j c (xs.take j)*(Q*F))) w:=by obtain⟨p,h⟩:=V.ex h;obtain⟨c,h⟩:=V.ex h;have h:=h.a.p1.a.p1.a.p2.p3;exact⟨h.bM,p,c,h.right⟩
theorem sC.aI {k1 j:Nat} {p:av} {c:Nat} (hj:j<=xs.length) (h:V O (ab k1 #[af p j c] 25*(aE 26 1 bS p j c (xs.take j)*(Q*F))) w):V O (sC k1 xs Q j*F) w:=V.bO p (V.bO c ((h.eL hj).g3))
theorem adv (hn:xs.length<=65536) (mA:∃fn c,Tryz.prog.funcs[gf]?=some fn/\fn.body=some c) (py:∀bG:Nat->HP,(∀j w,V O (bG j) w->V O Q w)->iD au O gf lb bG (xs.map λx=>#[kU x])) (h:V O (Q*F) w): ae 371 #[aP,.func (.func gf) #[] lb] w λv w'=>∃p c,v=af p xs.length c/\V O (aE 26 1 bS p xs.length c xs*(Q*F)) w':=by
 apply WC;refine aG h λk1 w1 h1=> ?_;have h0:V O (sC k1 xs (Q*F) 0*cW) w1:=sC.aI (p:=none) (c:=0) (pb _) ((fE 26 1 bS (h1.cQ)).aF (by show aE 26 1 bS none 0 0 []*(cW*(ab k1 #[aP] 25*(Q*F)))=ab k1 #[aP] 25*(aE 26 1 bS none 0 0 []*((Q*F)*cW));ac_rfl));refine j7 ⟨O,gf,lb,xs.map λx=>#[kU x],sC k1 xs (Q*F),λc=>bM False,rfl,mA,h0.left,?_,py _ (λj w hw=> ?_),?_,?_,?_⟩
 .intro x hx;obtain⟨y,_,rfl⟩:=fC.1 hx;rfl
 .obtain⟨_,p,c,h2⟩:=sC.aK hw.cQ.e1;exact h2.right.right.left.left
 .intro j x hx G G' T w5 hT h5;rw[eZ] at hx;obtain⟨y,hy,rfl⟩:=dd.1 hx;have aQ:=(ct.1 hy).1;refine⟨_,rfl,hT (sC k1 xs (Q*F) j) _ _ h5 λw6 h6=> ?_⟩;obtain⟨_,p,c,h7⟩:=sC.aK h6;refine aN (h7.left.cell (i:=0) rfl)<|aG h7 λk8 w7 h8=> ?_;refine ju uI gL (by decide) uu (x:=y) (h8.aF (B:=ab k8 #[ah y] 26*(aE 26 1 bS p j c (xs.take j)*(ab k1 #[af p j c] 25*(Q*F*G')))) (by ac_rfl)) rfl (by simp only[maxLen];omega) (by omega) λp' c' w8 h9=> ?_;refine bD (i:=0) h9.p1 (by simp) λw9 aV=>sC.aI (p:=p') (c:=c') (by omega) ?_;have e:xs.take (j+1)=xs.take j++[y]:=by rw[fV,hy];rfl
  rw[e];exact aV
 .intro D w5 h5;rw[fk] at h5;obtain⟨_,p,c,h6⟩:=sC.aK h5.e1;refine aN (h6.left.cell (i:=0) rfl) ?_;have h7:=h6.p2.a.p3.p3.e4;refine iL h7 λw' h8=>⟨p,c,rfl,?_⟩;rw[j4] at h8;exact h8.right
 .intro D c w5 h5;exact(V.nJ h5).elim
theorem adw (hn:xs.length<=65536) (mA:∃fn c,Tryz.prog.funcs[gf]?=some fn/\fn.body=some c) (py:∀bG:Nat->HP,(∀j w,V O (bG j) w->V O Q w)->iD au O gf lb bG (xs.map λx=>#[kU x])) (h:V O (Q*F) w): ae 317 #[.func (.func gf) #[] lb] w λv w'=>∃p c,v=af p xs.length c/\V O (aE 26 1 bS p xs.length c xs*(Q*F)) w':=by apply Ww;refine ay (adv hn mA py h) ?_;rintro _ w1 ⟨p,c,rfl,h1⟩;exact iE ⟨p,c,rfl,h1⟩
end
def uJ (xs:aJ):Prop:=∀(i:Nat) x y,xs[i]?=some x->xs[i+1]?=some y->x<y
theorem adx {s:ByteArray} {i:Int} {K:Int->Prop} (h0:0<=i) (h1:i.toNat<s.size) (hk:∀b:UInt8,K (b.toNat:Int)):EL s i K:=⟨h0,s[i.toNat],by rw[getElem?_pos],hk _⟩
theorem ady {x:Int}:kN au 380 #[ah x] (aC false):=by intro w;apply WG;simp
theorem adz {x y:Int}:kN au 326 #[ah x,ah y] (aC (decide (x<y))):=by intro w;apply Wz;exact fY ady<|cR<|aw rfl ⟨rfl,rfl⟩
theorem PI {w:ao} {x:Int} (h0:0<=x) (h1:x<256):ae 257 #[ah x] w λv w'=>(∃n:Int,v=aa n)/\w'=w:=by
 apply Wu;have h64:ae 330 #[ah x] w λv w'=>(∃n:Int,v=aa n)/\w'=w:=by
  apply WA;refine⟨λa b w'=>a=x/\b=0/\w'=w,aw (by simp;omega) ⟨rfl,rfl,rfl⟩,?_⟩;rintro _ a b w1 ⟨rfl,rfl,rfl⟩;refine⟨λc d w'=>c=a/\d=0/\w'=w1,aw (by simp;omega) ⟨rfl,rfl,rfl⟩,?_⟩;rintro _ c d w2 ⟨rfl,rfl,rfl⟩;refine aw (by simp;omega)<|qn<|adx (by omega) ?_ λb=> ?_
  .have:(c%256).toNat<256:=by omega
   exact this
  .have:=b.toNat_lt;exact aY (by omega) (by omega)<|aY (by omega) (by omega) ⟨⟨_,rfl⟩,rfl⟩
 refine ay h64 ?_;rintro _ w1 ⟨⟨n,rfl⟩,rfl⟩;exact bI ⟨⟨n,rfl⟩,rfl⟩
section
variable {O w:ao} {F:HP} {p:av} {l c:Nat} {xs:aJ}
theorem adB (ha:uJ xs) (hl:l<=65536) (h:V O (aE 26 1 bS p l c xs*F) w): ae 320 #[af p l c,aa 0,aa l] w λv w'=>v=aT/\V O (aE 26 1 bS p l c xs*F) w':=by
 apply Wy;have hx:=nK gL (by decide) h.left;refine aY (by omega) (by omega) ⟨λn w m=>∃j:Nat,n=j/\1<=j/\m=l- j/\V O (aE 26 1 bS p l c xs*F) w,⟨_,1,rfl,by omega,rfl,h⟩,?_⟩;rintro _ n w1 m ⟨j,rfl,hj,rfl,h1⟩;refine bU (λaQ=> ?_) (λ_=>⟨rfl,h1⟩);refine⟨λn w m=>n=j/\V O (aE 26 1 bS p l c xs*F) w,⟨0,rfl,h1⟩,?_⟩;rintro _ _ w2 m ⟨rfl,h2⟩;have h2:=h2.drew;obtain⟨i,rfl⟩:∃i,j=i+1:=⟨j- 1,by omega⟩;have hy:xs[((i+1:Nat):Int).toNat]?=some (xs[i+1]'(by omega)):=by rw[cu];simp[show i+1<xs.length by omega]
 have hz:xs[((i+1:Nat)- 1:Int).toNat]?=some (xs[i]'(by omega)):=by
  have e:(((i+1:Nat):Int)- 1).toNat=i:=by omega
  rw[e];simp[show i<xs.length by omega]
 have oJ:=ha i (xs[i]'(by omega)) (xs[i+1]'(by omega)) (by simp[show i<xs.length by omega]) (by simp[show i+1<xs.length by omega]);refine aW (by rw[decide_eq_true_eq];omega)<|dC gL h2.left (by decide) (by omega) hy λg hg=>az (cU gL (j:=0) h2.left hg hy (by decide) rfl)<|aY (by omega) (by omega)<|dC gL h2.left (by decide) (by omega) hz λg2 pz=>az (cU gL (j:=0) h2.left pz hz (by decide) rfl)<|fY adz<|cR<|aw (by simp;omega)<|aY (by omega) (by omega) ⟨_,?_,i+1+1,by omega,by omega,rfl,h2⟩;omega
theorem adC {n:Int} (ha:uJ xs) (hl:l<=12) (h:V O (aE 26 1 bS p l c xs*F) w): ae 256 #[af p l c,aa 0,aa l,aa n] w λv w'=>v=aT/\V O (aE 26 1 bS p l c xs*F) w':=by apply Wt;refine⟨λa b d x y w m=>a=0/\b=l/\V O (aE 26 1 bS p l c xs*F) w,⟨0,rfl,rfl,h⟩,?_⟩;rintro _ a b d x y w1 m ⟨rfl,rfl,h1⟩;refine aY (by omega) (by omega)<|aW (by simp;omega)<|ay (adB ha (by omega) h1) ?_;rintro _ w2 ⟨rfl,h2⟩;exact⟨rfl,rfl,h2⟩
theorem PJ (ha:uJ xs) (hl:l<=12) (h:V O (aE 26 1 bS p l c xs*F) w): ae 168 #[af p l c] w λv w'=>v=aT/\V O (aE 26 1 bS p l c xs*F) w':=by apply Wi;refine fx (by omega) (by omega)<|ay (PI (by omega) (by omega)) ?_;rintro _ _ ⟨⟨n,rfl⟩,rfl⟩;refine bI<|ay (adC ha hl h) ?_;rintro _ w2 ⟨rfl,h2⟩;exact⟨rfl,rfl,h2⟩
theorem adD (ha:uJ xs) (hl:l<=65536) (h:V O (aE 26 1 bS p l c xs*F) w): ae 169 #[af p l c] w λv w'=>v=af p l c/\V O (aE 26 1 bS p l c xs*F) w':=by
 apply Wj;have hx:=nK gL (by decide) h.left;refine bU (λ_=>⟨rfl,h⟩) λh2=>⟨λn w m=>∃j:Nat,n=j/\1<=j/\m=l- j/\V O (aE 26 1 bS p l c xs*F) w,⟨_,1,rfl,by omega,rfl,h⟩,?_⟩;rintro _ n w1 m ⟨j,rfl,hj,rfl,h1⟩;refine bU (λaQ=> ?_) (λ_=>⟨rfl,h1⟩);have h2:=h1.drew;obtain⟨i,rfl⟩:∃i,j=i+1:=⟨j- 1,by omega⟩;have hy:xs[((i+1:Nat):Int).toNat]?=some (xs[i+1]'(by omega)):=by rw[cu];simp[show i+1<xs.length by omega]
 have hz:xs[((i+1:Nat)- 1:Int).toNat]?=some (xs[i]'(by omega)):=by
  have e:(((i+1:Nat):Int)- 1).toNat=i:=by omega
  rw[e];simp[show i<xs.length by omega]
 have oJ:=ha i (xs[i]'(by omega)) (xs[i+1]'(by omega)) (by simp[show i<xs.length by omega]) (by simp[show i+1<xs.length by omega]);refine dC gL h2.left (by decide) (by omega) hy λg hg=>az (cU gL (j:=0) h2.left hg hy (by decide) rfl)<|aY (by omega) (by omega)<|dC gL h2.left (by decide) (by omega) hz λg2 pz=>az (cU gL (j:=0) h2.left pz hz (by decide) rfl)<|aw (by simp;omega)<|aY (by omega) (by omega) ⟨_,?_,i+1+1,by omega,by omega,rfl,h2⟩;omega
end
section
variable {O w:ao} {F Q:HP} {gf:FuncId} {lb:aM} {xs:aJ}
theorem PL (ha:uJ xs) (hn:xs.length<=12) (mA:∃fn c,Tryz.prog.funcs[gf]?=some fn/\fn.body=some c) (py:∀bG:Nat->HP,(∀j w,V O (bG j) w->V O Q w)->iD au O gf lb bG (xs.map λx=>#[kU x])) (h:V O (Q*F) w): ae 251 #[.func (.func gf) #[] lb] w λv w'=>∃p c,v=af p xs.length c/\V O (aE 26 1 bS p xs.length c xs*(Q*F)) w':=by apply Wo;refine ay (adw (by omega) mA py h) ?_;rintro _ w1 ⟨p,c,rfl,h1⟩;refine iE<|ay (PJ ha hn h1) ?_;rintro _ w2 ⟨rfl,h2⟩;exact⟨rfl,p,c,rfl,h2⟩
end
theorem uJ.aZ {m:aJ} (h:m.length<=1):uJ m:=by intro i x y h1 h2;have:=(ct.1 h2).1;omega
def lk (cs:List (Int×Int)) (x:Int):Option Int:=cs.lookup x
theorem adE {m cs:List (Int×Int)} (hn:(m.map (·.1)).Nodup) (h:∀x,m.lookup x=lk cs x) (hc:cs.length<=1):m=cs:=by
 match m,cs,hc with
 |[],[],_=>rfl
 |[],[q],_=>have:=h q.1;simp[lk,List.lookup] at this
 |p::l,[],_=>have:=h p.1;simp[lk,List.lookup] at this
 |p::l,[q],_=>
  obtain⟨p1,p2⟩:=p;obtain⟨q1,q2⟩:=q;have h1:=h p1;simp only[lk,List.lookup,beq_self_eq_true] at h1;have hpq:p1=q1/\p2=q2:=by
   by_cases e:p1=q1
   .subst e;simp at h1;exact⟨rfl,h1⟩
   .have:(p1==q1)=false:=by simpa using e
    simp[this] at h1
  obtain⟨rfl,rfl⟩:=hpq;match l with
  |[]=>rfl
  |r::l=>
   exfalso;obtain⟨r1,r2⟩:=r;rw[jo,jo,vq] at hn;have cp:r1≠p1:=λe=>hn.1 (by simp[e]);have e1:(r1==p1)=false:=by simpa using cp
   have:=h r1;simp[lk,List.lookup,e1] at this
def JK (vf:Int->Value) (a:Array MapEntry) (ck:Nat) (cs:List (Int×Int)):Prop:=(a.toList.map (λe=>(e.key,e.val))=cs.map λp=>(kU p.1,vf p.2))/\∀e∈a.toList,e.born<ck
section
variable {O w:ao} {F:HP} {r:Nat} {cs:List (Int×Int)} {vf:Int->Value}
theorem PN (hc:cs.length<=1) (h:V O (gR kU vf (λ_=>True) r (lk cs)*F) w):∃a ck,JK vf a ck cs/\w.heap[r]?=some (.map a ck)/\V O (ob r (.map a ck)*F) w:=by obtain⟨a,ck,m,⟨h1,_,h2,h3,h4⟩,h5⟩:=gR.aK h;obtain rfl:=adE h1 h2 hc;exact⟨a,ck,⟨h3,h4⟩,h5.ob,h5⟩
theorem JK.aI {a:Array MapEntry} {ck:Nat} (hm:JK vf a ck cs) (hc:cs.length<=1) (h:V O (ob r (.map a ck)*F) w):V O (gR kU vf (λ_=>True) r (lk cs)*F) w:=by
 refine gR.aI (m:=cs) ⟨?_,λ_ _=>trivial,λ_=>rfl,hm.1,hm.2⟩ h;match cs,hc with
 |[],_=>simp
 |[p],_=>simp
theorem PQ {j:Nat} {p:Int×Int} (hc:cs.length<=1) (h:cs[j]?=some p):lk cs p.1=some p.2:=by
 match cs,hc with
 |[q],_=>
  have hj:j=0:=by have:=(ct.1 h).1;simp at this;omega
  subst hj;simp at h;subst h;simp[lk,List.lookup]
end
theorem tw {α β:Type} {l:List α} {f:α->β} {j:Nat} {y:β} (h:(l.map f)[j]?=some y):∃x,l[j]?=some x/\f x=y:=by rw[eZ] at h;exact dd.1 h
section
variable {O w:ao} {F:HP} {k r:Nat} {cs:List (Int×Int)}
theorem adG {x:av} (h:V O F w):ae 319 #[ag x] w λv w'=>∃k t,v=.func (.func 372) #[] #[al k]/\V O (ab k #[ag x] t*F) w':=by apply Wx;exact aG h λk1 w1 h1=>⟨k1,_,rfl,h1⟩
theorem adH {kk t:Nat} {bG:Nat->HP} (hc:cs.length<=1) (hP:∀w,V O (bG 0) w->V O (ab kk #[al k] t) w) (hT:∀w,V O (bG 0) w->V O (hW k r (lk cs)) w): iD au O 372 #[al kk] bG (cs.map λp=>#[kU p.1,uF p.2]):=by
 intro f b c B Bx cA hB hy F w h;show ae _ #[.func f b c,al kk] w _;apply WD;have hp:=hP w (hB 0 w h.left);have ht:=(hT w (hB 0 w h.left)).cQ.e1;obtain⟨a,ck,hm,hb,_⟩:=PN hc (ht.aF (B:=uG r (lk cs)*(ab k #[aH 4294967295,.map (some r)] 504*cW)) (by unfold hW;ac_rfl));have hk:=ht.aF (B:=ab k #[aH 4294967295,.map (some r)] 504*(uG r (lk cs)*cW)) (by unfold hW;ac_rfl);refine bh (hp.cell (i:=0) rfl)<|aw rfl<|bh (hp.cell (i:=0) rfl)<|aq<|kK (aB hk (i:=1) rfl)<|ay (adp hb h) ?_;rintro _ w1 ⟨r',rfl,h1⟩;refine Pv ?_;have hK:ae 374 #[.map (some r')] w1 λv w'=>∃kq t,v=.func (.func 409) #[] #[al kq]/\V O (ab kq #[.map (some r')] t*(ob r' (.map a ck)*(B 0*F))) w':=by apply WE;exact aG h1 λk1 w1 h1=>⟨k1,_,rfl,h1⟩
 refine ay hK ?_;rintro _ w2 ⟨kq,tq,rfl,h2⟩;have hl:(cs.map (·.1)).length=cs.length:=by simp
 refine i6<|ay (PL (Q:=ab kq #[.map (some r')] tq*ob r' (.map a ck)) (xs:=cs.map (·.1)) (uJ.aZ (by omega)) (by omega) ⟨_,_,Tryz.func409,rfl⟩ (λbG hq=> ?_) (h2.g1)) ?_
 .have:=adt (O:=O) (k:=kq) (r:=r') (bG:=bG) hc hm.1 hm.2 λj w hw=>⟨(hq j w hw).left.cell (i:=0) rfl,(hq j w hw).right.Cx⟩;rw[lq];exact this
 rintro _ w3 ⟨p,c3,rfl,h3⟩;rw[hl] at h3 ⊢;refine iE ⟨λn w m=>∃j:Nat,n=j/\j<=cs.length/\m=cs.length- j/\V O (aE 26 1 bS p cs.length c3 (cs.map (·.1))*(ab kq #[.map (some r')] tq*(ob r' (.map a ck)*(B j*F)))) w,⟨_,0,rfl,by omega,rfl,h3.p1.a.p2⟩,?_⟩;rintro _ n w4 m ⟨j,rfl,hj,rfl,h4⟩;refine bU (λaQ=> ?_) (λbW=>.inl ?_)
 .obtain⟨q,hq⟩:∃q,cs[j]?=some q:=⟨cs[j]'(by omega),by simp[show j<cs.length by omega]⟩;have CW:(cs.map (·.1))[(j:Int).toNat]?=some q.1:=by rw[cu,eZ,hq];rfl
  refine dC gL h4.left (by decide) (by omega) CW λg hg=>az (cU gL (j:=0) h4.left hg CW (by decide) rfl) ?_;have h5:=h4.p2;refine FX (kf:=kU) (vf:=uF) (S:=λ_=>True) AP (x:=q.1) (hm.aI hc h5) trivial (show(zeroValue 108).run au w4=.ok (aH 0) w4 by kernel_rfl) ?_;rw[PQ hc hq];refine bI<|nH (hy j #[kU q.1,uF q.2] (by rw[eZ,hq];rfl) (aE 26 1 bS p cs.length c3 (cs.map (·.1))*(ab kq #[.map (some r')] tq*(ob r' (.map a ck)*F))) w4 (h4.p3)) ?_;rintro v w5 (⟨rfl,h6⟩|⟨rfl,h6⟩)
  .exact cR<|aw rfl<|aY (by omega) (by omega) ⟨_,by omega,j+1,by omega,by omega,rfl,h6.p3.p3.p3⟩
  .exact cR<|aW rfl<|.inr ((h6.p3.p3.p3.g2).right)
 .have e:j=cs.length:=by omega
  subst e;rw[fk];exact(h4.g2).right
def ma (cs:List (Int×Int)):Int:=(cs.map (·.2)).foldl (·+·) 0
theorem PR (hc:cs.length<=1) (hr:∀p∈cs,0<=p.2/\p.2<=4294967295) (h:V O (hW k r (lk cs)*F) w): ae 255 #[al k] w λv w'=>v=ah (ma cs)/\V O (hW k r (lk cs)*F) w':=by
 apply Ws;refine aG h λk1 w1 h1=>bD (i:=0) h1 (by simp) λw2 h2=>ay (adG h2) ?_;rintro _ w3 ⟨kk,t,rfl,h3⟩;have h3:V O (ab kk #[al k] t*(ab k1 #[ah (ma (cs.take 0))] 26*(hW k r (lk cs)*F))) w3:=h3;refine i6<|j7 ⟨O,_,_,cs.map λp=>#[kU p.1,uF p.2],λj=>ab kk #[al k] t*(ab k1 #[ah (ma (cs.take j))] 26*(hW k r (lk cs)*F)),λc=>bM False,rfl,⟨_,_,Tryz.func372,rfl⟩,h3,?_,adH hc (λw h=>h.left) (λw h=>h.right.right.left),?_,?_,?_⟩
 .intro x hx;obtain⟨y,_,rfl⟩:=fC.1 hx;rfl
 .intro j x hx G G' T w5 hT h5;obtain⟨q,hq,rfl⟩:=tw hx;have hj0:j=0:=by have:=(ct.1 hq).1;omega
  subst hj0;have xv:=hr q (dF hq);have e:ma (cs.take 1)=q.2:=by
   match cs,hc with
   |[p],_=>simp at hq;subst hq;simp[ma]
  refine⟨_,_,rfl,hT _ _ _ h5 λw6 h6=> ?_⟩;have h7:=h6.aF (B:=ab k1 #[ah (ma (cs.take 0))] 26*(ab kk #[al k] t*(hW k r (lk cs)*(F*G')))) (by dsimp only;ac_rfl);refine az (n:=ma (cs.take 0)) (h7.left.cell (i:=0) rfl)<|fx (by omega) (by omega)<|fx (by simp[ma];omega) (by simp[ma];omega)<|bD (i:=0) h7 (by simp) λw8 h8=> ?_;have e2:(#[ah (ma (cs.take 0))].setIfInBounds 0 (ah (ma (cs.take 0)+q.2)))=#[ah (ma (cs.take (0+1)))]:=by rw[e];simp[ma]
  rw[e2] at h8;exact h8.aF (by dsimp only;ac_rfl)
 .intro D w5 h5;rw[fk] at h5;have h6:=h5.aF (B:=ab k1 #[ah (ma (cs.take cs.length))] 26*(fw D*(ab kk #[al k] t*(hW k r (lk cs)*F)))) (by dsimp only;ac_rfl);rw[j4] at h6;refine az (n:=ma cs) (h6.left.cell (i:=0) rfl)<|iL (h6.p1) λw' h8=>⟨rfl,h8.right.right⟩
 .intro D c w5 h5;exact(V.nJ h5).elim
end
section
variable {O w:ao} {F:HP} {k r:Nat} {tm bX:Int} {cs:List (Int×Int)}
theorem adJ {x:av} (h:V O F w):ae 163 #[ag x] w λv w'=>∃k t,v=.func (.func 249) #[] #[al k]/\V O (ab k #[ag x] t*F) w':=by apply Wf;exact aG h λk1 w1 h1=>⟨k1,_,rfl,h1⟩
theorem PS {kk t:Nat} {bG:Nat->HP} (hc:cs.length<=1) (hP:∀w,V O (bG 0) w->V O (ab kk #[al k] t) w) (hT:∀w,V O (bG 0) w->V O (dK k r tm bX (lk cs)) w): iD au O 249 #[al kk] bG (cs.map λp=>#[kU p.1,sA p.2]):=by
 intro f b c B Bx cA hB hy F w h;show ae _ #[.func f b c,al kk] w _;apply Wn;have hp:=hP w (hB 0 w h.left);have ht:=(hT w (hB 0 w h.left)).cQ.e1;obtain⟨a,ck,hm,hb,_⟩:=PN hc (dK.m ht);refine bh (hp.cell (i:=0) rfl)<|aw rfl<|bh (hp.cell (i:=0) rfl)<|aq<|kK (aB (dK.b ht) (i:=2) rfl)<|ay (adq hb h) ?_;rintro _ w1 ⟨r',rfl,h1⟩;refine Pv ?_;have hK:ae 252 #[.map (some r')] w1 λv w'=>∃kq t,v=.func (.func 318) #[] #[al kq]/\V O (ab kq #[.map (some r')] t*(ob r' (.map a ck)*(B 0*F))) w':=by apply Wp;exact aG h1 λk1 w1 h1=>⟨k1,_,rfl,h1⟩
 refine ay hK ?_;rintro _ w2 ⟨kq,tq,rfl,h2⟩;have hl:(cs.map (·.1)).length=cs.length:=by simp
 refine i6<|ay (PL (Q:=ab kq #[.map (some r')] tq*ob r' (.map a ck)) (xs:=cs.map (·.1)) (uJ.aZ (by omega)) (by omega) ⟨_,_,Tryz.func318,rfl⟩ (λbG hq=> ?_) (h2.g1)) ?_
 .have:=ads (O:=O) (k:=kq) (r:=r') (bG:=bG) hc hm.1 hm.2 λj w hw=>⟨(hq j w hw).left.cell (i:=0) rfl,(hq j w hw).right.Cx⟩;rw[lq];exact this
 rintro _ w3 ⟨p,c3,rfl,h3⟩;rw[hl] at h3 ⊢;refine iE ⟨λn w m=>∃j:Nat,n=j/\j<=cs.length/\m=cs.length- j/\V O (aE 26 1 bS p cs.length c3 (cs.map (·.1))*(ab kq #[.map (some r')] tq*(ob r' (.map a ck)*(B j*F)))) w,⟨_,0,rfl,by omega,rfl,h3.p1.a.p2⟩,?_⟩;rintro _ n w4 m ⟨j,rfl,hj,rfl,h4⟩;refine bU (λaQ=> ?_) (λbW=>.inl ?_)
 .obtain⟨q,hq⟩:∃q,cs[j]?=some q:=⟨cs[j]'(by omega),by simp[show j<cs.length by omega]⟩;have CW:(cs.map (·.1))[(j:Int).toNat]?=some q.1:=by rw[cu,eZ,hq];rfl
  refine dC gL h4.left (by decide) (by omega) CW λg hg=>az (cU gL (j:=0) h4.left hg CW (by decide) rfl) ?_;have h5:=h4.p2;refine FX (kf:=kU) (vf:=sA) (S:=λ_=>True) yN (x:=q.1) (hm.aI hc h5) trivial (show(zeroValue 3).run au w4=.ok (aa 0) w4 by kernel_rfl) ?_;rw[PQ hc hq];refine bI<|nH (hy j #[kU q.1,sA q.2] (by rw[eZ,hq];rfl) (aE 26 1 bS p cs.length c3 (cs.map (·.1))*(ab kq #[.map (some r')] tq*(ob r' (.map a ck)*F))) w4 (h4.p3)) ?_;rintro v w5 (⟨rfl,h6⟩|⟨rfl,h6⟩)
  .exact cR<|aw rfl<|aY (by omega) (by omega) ⟨_,by omega,j+1,by omega,by omega,rfl,h6.p3.p3.p3⟩
  .exact cR<|aW rfl<|.inr ((h6.p3.p3.p3.g2).right)
 .have e:j=cs.length:=by omega
  subst e;rw[fk];exact(h4.g2).right
theorem adK {key:Int} {f:Int->Option Int} (h:V O (dK k r tm bX f*F) w):ae 162 #[al k,ah key] w λv w'=>v=aa (if(f key).isSome then 0 else 12)/\V O (dK k r tm bX (if(f key).isSome then fg f key (some bX) else f)*F) w':=by
 apply We;refine ay (Pu (key:=key) h) ?_;rintro _ _ ⟨rfl,rfl⟩;refine cR ?_;cases hk:(f key).isSome with
 |false=>exact aW rfl ⟨rfl,h⟩
 |true=>have h:=h.drew;exact aw rfl<|aq<|kK (aB (dK.b h) (i:=2) rfl)<|aq<|az (n:=bX) (aB (dK.b h) (i:=1) rfl)<|xk (kf:=kU) (vf:=sA) (S:=λ_=>True) (v:=bX) yN (x:=key) (dK.m h) trivial λw1 h3=>⟨rfl,dK.jK h3⟩
def mB (tm bX:Int) (cs:List (Int×Int)):aJ:=(cs.filter λp=>decide (tm<=bX- p.2)).map (·.1)
def rA (tm bX:Int) (cs:List (Int×Int)):List (Int×Int):=cs.filter λp=> !decide (tm<=bX- p.2)
theorem adL (hc:cs.length<=1) (hn:0<=bX/\bX<=1000000) (hr:∀p∈cs,0<=p.2/\p.2<=1000000) (h:V O (dK k r tm bX (lk cs)*F) w): ae 91 #[al k] w λv w'=>∃p c,v=af p (mB tm (bX+1) cs).length c/\ V O (aE 26 1 bS p (mB tm (bX+1) cs).length c (mB tm (bX+1) cs)*(dK k r tm (bX+1) (lk (rA tm (bX+1) cs))*F)) w':=by
 apply Wa;refine aG h λk1 w1 h1=>bh (h1.left.cell (i:=0) rfl)<|aw rfl<|bh (h1.left.cell (i:=0) rfl)<|aq ?_;obtain⟨t1,h1⟩:∃t1,V O (ab k1 #[al k] t1*(dK k r tm bX (lk cs)*F)) w1:=⟨_,h1⟩;have h2:=dK.b (h1.p1);refine az (n:=bX) (aB h2 (i:=1) rfl)<|aY (by omega) (by omega)<|aq<|bD (i:=1) h2 (by simp) λw2 h3=>aG h3 λk8 w3 h4=> ?_;have h4:V O (ab k8 #[aP] 25*(dK k r tm (bX+1) (lk cs)*(ab k1 #[al k] t1*F))) w3:=h4.aF (by show ab k8 #[aP] 25*(ab k #[aa tm,aa (bX+1),.map (some r)] 202*(AQ r (lk cs)*_))=_;unfold dK;ac_rfl);refine bh ((h4.right.right.left).cell (i:=0) rfl)<|ay (adJ h4) ?_;rintro _ w4 ⟨kk,t,rfl,h5⟩;have fin:∀{cs':List (Int×Int)} {out:aJ} {p:av} {c D:Nat} {w:ao},V O (fw D*(ab kk #[al k] t*(ab k8 #[af p out.length c] 25*(aE 26 1 bS p out.length c out*(dK k r tm (bX+1) (lk cs')*(ab k1 #[al k] t1*F)))))) w->out=mB tm (bX+1) cs->cs'=rA tm (bX+1) cs->aL (aD k8) w λPT JL PU=>gP D w λfF=>(λv w'=>∃p c,v=af p (mB tm (bX+1) cs).length c/\V O (aE 26 1 bS p (mB tm (bX+1) cs).length c (mB tm (bX+1) cs)*(dK k r tm (bX+1) (lk (rA tm (bX+1) cs))*F)) w') (af PT JL PU) fF:=by rintro cs' out p c D w h rfl rfl;have h6:=h.aF (B:=fw D*(ab k8 #[af p (mB tm (bX+1) cs).length c] 25*((ab kk #[al k] t*ab k1 #[al k] t1)*(aE 26 1 bS p (mB tm (bX+1) cs).length c (mB tm (bX+1) cs)*(dK k r tm (bX+1) (lk (rA tm (bX+1) cs))*F))))) (by ac_rfl);exact aN (h6.right.left.cell (i:=0) rfl)<|iL h6 λw' h8=>⟨p,c,rfl,h8.right.right⟩
 match cs,hc with
 |[],hc=>
  refine i6<|j7 ⟨O,_,_,[],λj=>ab kk #[al k] t*(ab k8 #[aP] 25*(dK k r tm (bX+1) (lk [])*(ab k1 #[al k] t1*F))),λc=>bM False,rfl,⟨_,_,Tryz.func249,rfl⟩,h5,by simp,PS (cs:=[]) hc (λw h=>h.left) (λw h=>h.right.right.left),λj x hx=>by simp at hx,?_,?_⟩
  .intro D w5 h6;exact fin (out:=[]) (cs':=[]) (((fE 26 1 bS h6)).aF (by simp only[yk];ac_rfl)) rfl rfl
  .intro D c w5 h6;exact(V.nJ h6).elim
 |[q],hc=>
  have hq:=hr q (by simp);refine i6<|j7 ⟨O,_,_,[#[kU q.1,sA q.2]],λj=>if j=0 then ab kk #[al k] t*(ab k8 #[aP] 25*(dK k r tm (bX+1) (lk [q])*(ab k1 #[al k] t1*F))) else ex λp=>ex λc=>ab kk #[al k] t*(ab k8 #[af p (mB tm (bX+1) [q]).length c] 25*(aE 26 1 bS p (mB tm (bX+1) [q]).length c (mB tm (bX+1) [q])*(dK k r tm (bX+1) (lk (rA tm (bX+1) [q]))*(ab k1 #[al k] t1*F)))),
   λc=>bM False,rfl,⟨_,_,Tryz.func249,rfl⟩,h5,by simp[kU,sA],
   PS (cs:=[q]) hc (λw h=>h.left) (λw h=>h.right.right.left),?_,?_,?_⟩
  .intro j x hx G G' T w5 hT h6;have hj:j=0:=by have:=(ct.1 hx).1;simp at this;exact this
   subst hj;simp at hx;subst hx;refine⟨_,_,rfl,hT _ _ _ h6 λw6 h7=> ?_⟩;have h7:=h7.drew;have h8:=h7.aF (B:=dK k r tm (bX+1) (lk [q])*(ab k1 #[al k] t1*(ab kk #[al k] t*(ab k8 #[aP] 25*(F*G'))))) (by simp only[if_true];ac_rfl);refine bh (h8.right.left.cell (i:=0) rfl)<|aq<|az (n:=bX+1) (aB (dK.b h8) (i:=1) rfl)<|aY (by omega) (by omega)<|bh (h8.right.left.cell (i:=0) rfl)<|aq<|az (n:=tm) (aB (dK.b h8) (i:=0) rfl)<|bU (λhg=> ?_) (λhg=> ?_)
   .have hg:tm<=bX+1- q.2:=hg;have h9:=h8.p3;refine aN (h9.left.cell (i:=0) rfl)<|aG h9 λvR w7 aV=>ju uI gL (by decide) uu (x:=q.1) ((fE 26 1 bS aV).p1) rfl (by simp only[maxLen];omega) (by omega) λp' c' w8 bu=>bD (i:=0) bu.p1 (by simp) λw9 bA=> ?_;have bN:=bA.aF (B:=dK k r tm (bX+1) (lk [q])*(ab k8 #[af p' 1 c'] 25*(aE 26 1 bS p' 1 c' [q.1]*(ab k1 #[al k] t1*(ab kk #[al k] t*(F*G')))))) (by show ab k8 #[af p' 1 c'] 25*(aE 26 1 bS p' 1 c' [q.1]*_)=_;ac_rfl);refine bh (bN.right.right.right.left.cell (i:=0) rfl)<|aq<|kK (aB (dK.b bN) (i:=2) rfl)<|Ji (kf:=kU) (vf:=sA) (S:=λ_=>True) yN (x:=q.1) rfl (dK.m bN) trivial λdn bY=> ?_;have cE:=dK.jK bY;have e1:mB tm (bX+1) [q]=[q.1]:=by simp[mB,hg]
    have e2:fg (lk [q]) q.1 none=lk (rA tm (bX+1) [q]):=by
     funext x;by_cases e:x=q.1
     .simp[fg,e,rA,hg,lk]
     .have:(x==q.1)=false:=by simpa using e
      simp[fg,e,rA,hg,lk,List.lookup,this]
    rw[e2] at cE;dsimp only;rw[if_neg (by decide),e1];exact V.bO p' (V.bO c' (cE.aF (by simp only[B8];ac_rfl)))
   .have hg:¬tm<=bX+1- q.2:=hg;have e1:mB tm (bX+1) [q]=[]:=by simp[mB,hg]
    have e2:rA tm (bX+1) [q]=[q]:=by simp[rA];omega
    dsimp only;rw[if_neg (by decide),e1,e2];exact V.bO none (V.bO 0 ((fE 26 1 bS h8).aF (by simp only[yk];ac_rfl)))
  .intro D w5 h6;obtain⟨p,h6⟩:=V.ex (h6.e1);obtain⟨c,h6⟩:=V.ex h6;exact fin (h6.aF (by ac_rfl)) rfl rfl
  .intro D c w5 h6;exact(V.nJ h6).elim
end
variable {α β:Type}
theorem uK {f:α->β} {s:AS α} {i:Nat}:(cN f s).sp[i]?=(s.sp[i]?).map λy=>⟨f y.x,y.g,y.st⟩:=by simp[cN]
theorem bx.cN {f:α->β} {s:AS α} (hs:bx s):bx (cN f s):=by
 refine⟨hs.yO,hs.ie,hs.qu,hs.qv,by simpa[Proofs.YtjhnnnfnkjighaaGreatDoor.cN] using hs.len,λy hy=> ?_,λi hi=> ?_,hs.nd,?_,by simpa[Proofs.YtjhnnnfnkjighaaGreatDoor.cN] using hs.lE⟩
 .obtain⟨z,hz,rfl⟩:=fC.1 hy;exact hs.g z hz
 .obtain⟨y,hy,h0⟩:=hs.fr i hi;exact⟨_,by rw[uK,hy];rfl,h0⟩
 .show s.bn=(s.sp.map _).countP _;rw[List.countP_map,hs.bn];rfl
theorem FZ {f:α->β} {s:AS α} (hs:bx s) (h:Int):find (cN f s) h=find s h:=by
 cases hf:find s h with
 |some i=>obtain⟨y,hy,h1,e⟩:=(l6 hs).1 hf;exact(l6 hs.cN).2 ⟨_,by rw[uK,hy];rfl,h1,e⟩
 |none=>
  cases hg:find (cN f s) h with
  |none=>rfl
  |some i=>obtain⟨y,hy,h1,e⟩:=(l6 hs.cN).1 hg;rw[uK] at hy;obtain⟨z,hz,rfl⟩:=dd.1 hy;rw[(l6 hs).2 ⟨z,hz,h1,e⟩] at hf;cases hf
theorem AT {f:α->β} {s:AS α} (hs:bx s) (x:α):put (cN f s) (f x)=(cN f (put s x).1,(put s x).2):=by
 rcases nQ hs x with⟨fr,i,y,cv,hy,dk,bt⟩|⟨cv,fy,bt⟩|⟨cv,fy,bt⟩
 .rw[bt];have:(cN f s).fr.getLast?=some i:=by simp[cN,cv]
  unfold put;rw[this];simp only[uK,hy,qR];simp[cN,cv,wK]
 .rw[bt];simp[put,cN,cv,fy]
 .rw[bt];have:¬(s.sp.length:Int)=s.aR:=by omega
  simp[put,cN,cv,this]
theorem adM {f:α->β} {s:AS α} (z:α) (i:Nat):jX (f z) (cN f s) i=cN f (jX z s i):=by
 unfold jX;rw[uK];cases hy:s.sp[i]? with
 |none=>rfl
 |some y=>simp only[qR];split<;>simp[cN,wK]
theorem JM (f:α->β) (ys:List (bK α)):∀i,cq i (ys.map λy=>(⟨f y.x,y.g,y.st⟩:bK β))=(cq i ys).map λp=>(p.1,⟨f p.2.x,p.2.g,p.2.st⟩):=by
 induction ys with
 |nil=>intro i;rfl
 |cons y ys ih=>intro i;rw[jo,cq,cq,ih];split<;>rfl
theorem PW (f:α->β) (s:AS α) (i:Nat):fH i (cN f s).sp=fH i s.sp:=by rw[qw,qw];show(cq i (s.sp.map _)).map _=_;rw[JM,lq];rfl
def jw (s:AS α) (h:Int) (e:α):Prop:=∃i y,s.sp[i]?=some y/\y.st=1/\h=hd i y.g/\e=y.x
theorem tx {s:AS α} (hs:bx s) {i:Nat} {y:bK α} (hy:s.sp[i]?=some y):i<4294967295:=by have:=(ct.1 hy).1;have:=hs.len;have:=hs.ie;omega
theorem jw.find {s:AS α} (hs:bx s) {h:Int} {e:α}:jw s h e↔∃i y,find s h=some i/\s.sp[i]?=some y/\y.x=e:=by
 constructor
 .rintro⟨i,y,hy,h1,rfl,rfl⟩;exact⟨i,y,(l6 hs).2 ⟨y,hy,h1,rfl⟩,hy,rfl⟩
 .rintro⟨i,y,hf,hy,rfl⟩;obtain⟨z,hz,h1,e⟩:=(l6 hs).1 hf;rw[hy] at hz;cases hz;exact⟨i,y,hy,h1,e,rfl⟩
theorem jw.aZ {s:AS α} (hs:bx s) {h:Int} {e e':α} (h1:jw s h e) (h2:jw s h e'):e=e':=by obtain⟨i,y,hf,hy,rfl⟩:=(jw.find hs).1 h1;obtain⟨j,z,sg,hz,rfl⟩:=(jw.find hs).1 h2;rw[hf] at sg;cases sg;rw[hy] at hz;cases hz;rfl
theorem jw.range {s:AS α} (hs:bx s) {h:Int} {e:α} (hl:jw s h e):0<h/\h<=18446744073709551615:=by obtain⟨i,y,hy,h1,rfl,rfl⟩:=hl;have:=tx hs hy;have:=hs.g y (dF hy);unfold hd;omega
theorem adN {s:AS α} (hs:bx s) {x:α} (he:(put s x).2.2=0) {h:Int} {e:α}:jw (put s x).1 h e↔jw s h e\/(h=(put s x).2.1/\e=x):=by
 rcases nQ hs x with⟨fr,i,y,cv,hy,dk,bt⟩|⟨cv,fy,bt⟩|⟨cv,fy,bt⟩
 .rw[bt];have aQ:=(ct.1 hy).1;constructor
  .rintro⟨j,z,hz,h1,rfl,rfl⟩;rcases JG hz with⟨rfl,rfl⟩|⟨cp,hz⟩
   .exact .inr ⟨rfl,rfl⟩
   .exact .inl ⟨j,z,hz,h1,rfl,rfl⟩
  .rintro(⟨j,z,hz,h1,rfl,rfl⟩|⟨rfl,rfl⟩)
   .have cp:i≠j:=by rintro rfl;rw[hy] at hz;cases hz;omega
    exact⟨j,z,by show(s.sp.set i _)[j]?=_;rw[jR,if_neg cp];exact hz,h1,rfl,rfl⟩
   .exact⟨i,⟨e,y.g,1⟩,by show(s.sp.set i _)[i]?=_;simp[aQ],rfl,rfl,rfl⟩
 .rw[bt] at he;cases he
 .rw[bt];constructor
  .rintro⟨j,z,hz,h1,rfl,rfl⟩;have hz:(s.sp++[⟨x,s.first,1⟩])[j]?=some z:=hz;rcases sY j s.sp.length with hj|hj
   .rw[r9 hj] at hz;exact .inl ⟨j,z,hz,h1,rfl,rfl⟩
   .rw[ix hj] at hz;have h0:j- s.sp.length=0:=by have:=(ct.1 hz).1;simp at this;omega
    rw[h0] at hz;simp at hz;subst hz;have:j=s.sp.length:=by omega
    subst this;exact .inr ⟨rfl,rfl⟩
  .rintro(⟨j,z,hz,h1,rfl,rfl⟩|⟨rfl,rfl⟩)
   .have hj:=(ct.1 hz).1;exact⟨j,z,by show(s.sp++_)[j]?=_;rw[r9 hj];exact hz,h1,rfl,rfl⟩
   .exact⟨s.sp.length,⟨e,s.first,1⟩,by show(s.sp++_)[s.sp.length]?=_;simp,rfl,rfl,rfl⟩
theorem PX {s:AS α} (hs:bx s) {x:α} (he:(put s x).2.2=0) {e:α}:¬jw s (put s x).2.1 e:=by
 rintro⟨j,z,hz,h1,hh,rfl⟩;have hj:=tx hs hz;have iM:=(ct.1 hz).1;rcases nQ hs x with⟨fr,i,y,cv,hy,dk,bt⟩|⟨cv,fy,bt⟩|⟨cv,fy,bt⟩
 .rw[bt] at hh;obtain⟨rfl,_⟩:=yR (tx hs hy) hj hh;rw[hy] at hz;cases hz;omega
 .rw[bt] at he;cases he
 .rw[bt] at hh;have:=hs.len;have:=hs.ie;obtain⟨rfl,_⟩:=yR (by omega) hj hh;omega
theorem ue {s:AS α} (hs:bx s) {x:α} (he:(put s x).2.2≠0):(put s x)=(s,0,3):=by
 rcases nQ hs x with⟨fr,i,y,cv,hy,dk,bt⟩|⟨cv,fy,bt⟩|⟨cv,fy,bt⟩
 .rw[bt] at he;exact absurd rfl he
 .exact bt
 .rw[bt] at he;exact absurd rfl he
theorem PY {z:α} {s:AS α} (hs:bx s) {i:Nat} {y:bK α} (hy:s.sp[i]?=some y) (h1:y.st=1) {h:Int} {e:α}:jw (jX z s i) h e↔jw s h e/\h≠hd i y.g:=by
 have aQ:=(ct.1 hy).1;have key:∀v:bK α,v.st≠1->((∃j u,(s.sp.set i v)[j]?=some u/\u.st=1/\h=hd j u.g/\e=u.x)↔jw s h e/\h≠hd i y.g):=by
  intro v hv;constructor
  .rintro⟨j,u,hu,xw,rfl,rfl⟩;rcases JG hu with⟨rfl,rfl⟩|⟨cp,hu⟩
   .exact absurd xw hv
   .exact⟨⟨j,u,hu,xw,rfl,rfl⟩,λe=>cp (yR (tx hs hu) (tx hs hy) e).1⟩
  .rintro⟨⟨j,u,hu,xw,rfl,rfl⟩,cp⟩;have yS:i≠j:=by rintro rfl;rw[hy] at hu;cases hu;exact cp rfl
   exact⟨j,u,by rw[jR,if_neg yS];exact hu,xw,rfl,rfl⟩
 rcases l8 (z:=z) hy with⟨_,hd⟩|⟨_,hd⟩
 .rw[hd];exact key _ (by simp)
 .rw[hd];exact key _ (by simp)
theorem adO {z:α} {s:AS α} (hs:bx s) {i:Nat} {y:bK α} (hy:s.sp[i]?=some y) (h1:y.st=1):(jX z s i).bn+1=s.bn:=by have hp:=xu (P:=λz:bK α=>z.st==1) hy (by simp[h1]);have:=hs.bn;rcases l8 (z:=z) hy with⟨_,hd⟩|⟨_,hd⟩<;>rw[hd]<;>dsimp only<;>omega
theorem F0 {s:AS α} {h:Int} {e:α}:jw s h e↔∃p∈cq 0 s.sp,h=hd p.1 p.2.g/\e=p.2.x:=by
 constructor
 .rintro⟨i,y,hy,h1,rfl,rfl⟩;refine⟨(i,y),?_,rfl,rfl⟩;have key:∀(ys:List (bK α)) (k j:Nat),ys[j]?=some y->(k+j,y)∈cq k ys:=by
   intro ys;induction ys with
   |nil=>intro k j h;simp at h
   |cons z ys ih=>
    intro k j h;rw[cq];cases j with
    |zero=>simp at h;subst h;rw[if_pos h1];exact .head _
    |succ j=>
     have:=ih (k+1) j (by simpa using h);rw[show k+1+j=k+(j+1) by omega] at this;split
     .exact .tail _ this
     .exact this
  simpa using key s.sp 0 i hy
 .rintro⟨p,hp,rfl,rfl⟩;obtain⟨j,hj⟩:=sa.1 hp;obtain⟨_,h2,h3⟩:=JI _ _ _ _ hj;exact⟨p.1,p.2,by simpa using h2,h3,rfl,rfl⟩
theorem JN (ys:List (bK α)) (i:Nat):((cq i ys).map (·.1)).Nodup:=by
 induction ys generalizing i with
 |nil=>simp[cq]
 |cons y ys ih=>
  rw[cq];split
  .rw[jo,vq];refine⟨λhm=> ?_,ih _⟩;obtain⟨p,hp,e⟩:=fC.1 hm;obtain⟨j,hj⟩:=sa.1 hp;have:=(JI _ _ _ _ hj).1;omega
  .exact ih _
def rB (z:α) (q:α->Bool) (s:AS α) (l:List (Nat×bK α)):AS α×List α:=
 l.foldl (λr p=>if q p.2.x then(jX z r.1 p.1,r.2++[p.2.x]) else r) (s,[])
theorem adP {z:α} {q:α->Bool} {s:AS α} {l:List (Nat×bK α)} {p:Nat×bK α}: rB z q s (l++[p])=if q p.2.x then(jX z (rB z q s l).1 p.1,(rB z q s l).2++[p.2.x]) else rB z q s l:=by simp[rB,EJ]
theorem adQ {z:α} {q:α->Bool} {s:AS α} (hs:bx s) (rest:List (Nat×bK α)):∀(n:Nat) (l:List (Nat×bK α)),l.length=n->((l++rest).map (·.1)).Nodup->(∀p∈l++rest,s.sp[p.1]?=some p.2/\p.2.st=1)-> bx (rB z q s l).1/\(rB z q s l).1.aR=s.aR/\(∀p∈rest,(rB z q s l).1.sp[p.1]?=some p.2)/\(∀h e,jw (rB z q s l).1 h e↔jw s h e/\∀p∈l,q p.2.x=true->h≠hd p.1 p.2.g):=by
 intro n;induction n generalizing rest with
 |zero=>intro l hl _ hp;have:l=[]:=m5 hl;subst this;exact⟨hs,rfl,λp hm=>(hp p (by simpa using hm)).1,λh e=>by simp[rB]⟩
 |succ n ih=>
  intro l hl fm hp;rcases List.eq_nil_or_concat l with rfl|⟨l',p,rfl⟩
  .simp at hl
  .rw[List.concat_eq_append] at hl fm hp ⊢;have e1:l'++[p]++rest=l'++(p::rest):=by simp
   rw[e1] at fm hp;obtain⟨h1,h2,h3,h4⟩:=ih (p::rest) l' (by simpa using hl) fm hp;rw[adP];split
   .rename_i hq;have F1:=h3 p (.head _);have sD:=(hp p (by simp)).2;refine⟨h1.drop F1 sD,(PG F1).trans h2,λr hr=> ?_,λh e=> ?_⟩
    .have cp:p.1≠r.1:=by rw[nF,jo] at fm;have:=(sb.1 fm).2.1;rw[vq] at this;exact λe=>this.1 (fC.2 ⟨r,hr,e.symm⟩)
     have yT:=h3 r (.tail _ hr);rcases l8 (z:=z) F1 with⟨_,hd⟩|⟨_,hd⟩<;>rw[hd]<;>(show((rB z q s l').1.sp.set p.1 _)[r.1]?=_)<;>(rw[jR,if_neg cp];exact yT)
    .rw[PY h1 F1 sD,h4];constructor
     .rintro⟨⟨ha,hb⟩,hc⟩;refine⟨ha,λr hr xv=> ?_⟩;rcases fj.1 hr with hr|hr
      .exact hb r hr xv
      .rw[mL] at hr;subst hr;exact hc
     .rintro⟨ha,hb⟩;exact⟨⟨ha,λr hr=>hb r (by simp[hr])⟩,hb p (by simp) hq⟩
   .rename_i hq;refine⟨h1,h2,λr hr=>h3 r (.tail _ hr),λh e=> ?_⟩;rw[h4];constructor
    .rintro⟨ha,hb⟩;refine⟨ha,λr hr xv=> ?_⟩;rcases fj.1 hr with hr|hr
     .exact hb r hr xv
     .rw[mL] at hr;subst hr;exact absurd xv hq
    .rintro⟨ha,hb⟩;exact⟨ha,λr hr=>hb r (by simp[hr])⟩
theorem uL {s:AS α}:∀p∈cq 0 s.sp,s.sp[p.1]?=some p.2/\p.2.st=1:=by intro p hp;obtain⟨j,hj⟩:=sa.1 hp;obtain⟨_,h2,h3⟩:=JI _ _ _ _ hj;exact⟨by simpa using h2,h3⟩
end Go.Proofs.YtjhnnnfnkjighaaGreatDoor
namespace Go.Proofs.YtjhnnnfnkjighaaGreatDoor
open Go.Sp Go.RowKit
section
variable {α β:Type}
def pA (s:AS α) (i:Nat) (x:α):AS α:=match s.sp[i]? with|some y=>{s with sp:=s.sp.set i ⟨x,y.g,y.st⟩}|none=>s
theorem uM {s:AS α} {i:Nat} {x:α} {y:bK α} (hy:s.sp[i]?=some y):pA s i x={s with sp:=s.sp.set i ⟨x,y.g,y.st⟩}:=by simp[pA,hy]
theorem PZ {s:AS α} {i:Nat} {x:α} {f:α->β} (h:∀y,s.sp[i]?=some y->f x=f y.x):cN f (pA s i x)=cN f s:=by
 unfold pA;cases hy:s.sp[i]? with
 |none=>rfl
 |some y=>
  show AS.mk _ _ _ _ _=AS.mk _ _ _ _ _;congr 1;show(s.sp.set i _).map _=s.sp.map _;apply qQ;intro j;rw[eZ,eZ,jR];split
  .rename_i e;subst e;rw[hy,if_pos (ct.1 hy).1];simp[h y hy]
  .rfl
theorem bx.pA {s:AS α} (hs:bx s) {i:Nat} (x:α):bx (pA s i x):=by
 unfold Proofs.YtjhnnnfnkjighaaGreatDoor.pA;cases hy:s.sp[i]? with
 |none=>exact hs
 |some y=>
  have aQ:=(ct.1 hy).1;refine⟨hs.yO,hs.ie,hs.qu,hs.qv,by simpa using hs.len,λz hz=> ?_,λj hj=> ?_,hs.nd,?_,by simpa using hs.lE⟩
  .rcases pS hz with hz|rfl
   .exact hs.g z hz
   .exact hs.g y (dF hy)
  .obtain⟨z,hz,h0⟩:=hs.fr j hj;by_cases e:i=j
   .subst e;rw[hy] at hz;cases hz;exact⟨⟨x,y.g,y.st⟩,by simp[aQ],h0⟩
   .exact⟨z,by show(s.sp.set i _)[j]?=_;rw[jR,if_neg e];exact hz,h0⟩
  .show s.bn=(s.sp.set i _).countP _;rw[hs.bn];have:s.sp.countP (·.st==1)=(s.sp.map (·.st)).countP (·==1):=by rw[List.countP_map];rfl
   rw[this];have e2:(s.sp.set i ⟨x,y.g,y.st⟩).countP (·.st==1)=((s.sp.set i ⟨x,y.g,y.st⟩).map (·.st)).countP (·==1):=by rw[List.countP_map];rfl
   rw[e2];congr 1;apply qQ;intro j;rw[eZ,eZ,jR];split
   .rename_i e;subst e;rw[hy];rfl
   .rfl
theorem adR {s:AS α} (hs:bx s) {i:Nat} {x:α} {y:bK α} (hy:s.sp[i]?=some y) (h1:y.st=1) {h:Int} {e:α}:jw (pA s i x) h e↔(h=hd i y.g/\e=x)\/(jw s h e/\h≠hd i y.g):=by
 rw[uM hy];have aQ:=(ct.1 hy).1;constructor
 .rintro⟨j,u,hu,xw,rfl,rfl⟩;rcases JG hu with⟨rfl,rfl⟩|⟨cp,hu⟩
  .exact .inl ⟨rfl,rfl⟩
  .exact .inr ⟨⟨j,u,hu,xw,rfl,rfl⟩,λe=>cp (yR (tx hs hu) (tx hs hy) e).1⟩
 .rintro(⟨rfl,rfl⟩|⟨⟨j,u,hu,xw,rfl,rfl⟩,cp⟩)
  .exact⟨i,⟨e,y.g,y.st⟩,by show(s.sp.set i _)[i]?=_;simp[aQ],h1,rfl,rfl⟩
  .have yS:i≠j:=by rintro rfl;rw[hy] at hu;cases hu;exact cp rfl
   exact⟨j,u,by show(s.sp.set i _)[j]?=_;rw[jR,if_neg yS];exact hu,xw,rfl,rfl⟩
end
section
variable {α β:Type}
def bg (s:AS α) (h:Int):Option α:=(find s h).bind λi=>(s.sp[i]?).map (·.x)
def cF (s:AS α) (h:Int) (x:α):AS α:=match find s h with|some i=>pA s i x|none=>s
def gz (z:α) (s:AS α) (h:Int):AS α:=(cI z s h).1
theorem rC {s:AS α} (hs:bx s) {h:Int} {e:α}:bg s h=some e↔jw s h e:=by
 rw[jw.find hs];unfold bg;constructor
 .intro hp;obtain⟨i,hi,hx⟩:=bZ.1 hp;obtain⟨y,hy,he⟩:=dd.1 hx;exact⟨i,y,hi,hy,he⟩
 .rintro⟨i,y,hi,hy,rfl⟩;rw[hi,gg,hy];rfl
theorem F2 {s:AS α} (hs:bx s) {h:Int} {r:Option α} (hr:∀e,jw s h e↔r=some e):bg s h=r:=by
 cases hp:bg s h with
 |some e=>exact((hr e).1 ((rC hs).1 hp)).symm
 |none=>
  cases r with
  |none=>rfl
  |some e=>rw[(rC hs).2 ((hr e).2 rfl)] at hp;cases hp
theorem tz {s:AS α} (hs:bx s) {h:Int} {e:α} (hp:bg s h=some e):∃i y,find s h=some i/\s.sp[i]?=some y/\y.st=1/\h=hd i y.g/\y.x=e:=by obtain⟨i,y,hy,h1,h2,h3⟩:=(rC hs).1 hp;exact⟨i,y,(l6 hs).2 ⟨y,hy,h1,h2⟩,hy,h1,h2,h3.symm⟩
theorem bx.up {s:AS α} (hs:bx s) {h:Int} {x:α}:bx (cF s h x):=by
 unfold cF;split
 .exact hs.pA x
 .exact hs
theorem bx.rm {z:α} {s:AS α} (hs:bx s) (h:Int):bx (gz z s h):=hs.cI h
theorem nS {s:AS α} (hs:bx s) {h:Int} {e x:α} (hp:bg s h=some e) (h':Int):bg (cF s h x) h'=if h'=h then some x else bg s h':=by
 obtain⟨i,y,hf,hy,h1,h2,h3⟩:=tz hs hp;refine F2 hs.up λe'=> ?_;unfold cF;rw[hf];dsimp only;rw[adR hs hy h1,<-h2];by_cases hh:h'=h
 .simp[hh,eq_comm]
 .simp[hh,rC hs]
theorem vS {z:α} {s:AS α} (hs:bx s) {h:Int} {e:α} {i:Nat} {y:bK α} (hf:find s h=some i) (hy:s.sp[i]?=some y):gz z s h=jX z s i:=by unfold gz;rw[uH hf hy]
theorem yU {z:α} {s:AS α} (hs:bx s) {h:Int} {e:α} (hp:bg s h=some e) (h':Int):bg (gz z s h) h'=if h'=h then none else bg s h':=by
 obtain⟨i,y,hf,hy,h1,h2,h3⟩:=tz hs hp;refine F2 (hs.rm h) λe'=> ?_;rw[vS hs (e:=e) hf hy,PY hs hy h1,<-h2];by_cases hh:h'=h
 .simp[hh]
 .simp[hh,rC hs]
theorem qx {s:AS α} (hs:bx s) {x:α} (he:(put s x).2.2=0) (h':Int):bg (put s x).1 h'=if h'=(put s x).2.1 then some x else bg s h':=by
 refine F2 (hs.put x) λe'=> ?_;rw[adN hs he];by_cases hh:h'=(put s x).2.1
 .subst hh;have:=PX hs he (e:=e');simp[this,eq_comm]
 .simp[hh,rC hs]
theorem JO {s:AS α} (hs:bx s) {x:α} (he:(put s x).2.2=0):bg s (put s x).2.1=none:=F2 hs λe=>by simp[PX hs he]
theorem ni {s:AS α} (hs:bx s) {h:Int} {e:α} (hp:bg s h=some e):0<h/\h<=18446744073709551615:=((rC hs).1 hp).range hs
theorem CX (s:AS α) (h:Int) (x:α):(cF s h x).bn=s.bn:=by
 unfold cF pA;split
 .split<;>rfl
 .rfl
theorem yV (s:AS α) (h:Int) (x:α):(cF s h x).aR=s.aR:=by
 unfold cF pA;split
 .split<;>rfl
 .rfl
theorem adS {z:α} {s:AS α} (hs:bx s) {h:Int} {e:α} (hp:bg s h=some e):(gz z s h).bn+1=s.bn:=by obtain⟨i,y,hf,hy,h1,h2,h3⟩:=tz hs hp;rw[vS hs (e:=e) hf hy];exact adO hs hy h1
theorem P0 {z:α} {s:AS α} (hs:bx s) {h:Int} {e:α} (hp:bg s h=some e):(gz z s h).aR=s.aR:=by obtain⟨i,y,hf,hy,h1,h2,h3⟩:=tz hs hp;rw[vS hs (e:=e) hf hy];exact PG hy
theorem adT {s:AS α} (hs:bx s):(s.bn:Int)<=s.aR:=by have:=hs.lE;have:=hs.len;omega
theorem CY {f:α->β} {s:AS α} (hs:bx s) (h:Int):bg (cN f s) h=(bg s h).map f:=by
 unfold bg;rw[FZ hs];cases find s h with
 |none=>rfl
 |some i=>rw[gg,gg,uK,Option.map_map,Option.map_map];rfl
theorem adU {f:α->β} (s:AS α) (i:Nat) (x:α):cN f (pA s i x)=pA (cN f s) i (f x):=by
 unfold pA;rw[uK];cases hy:s.sp[i]? with
 |none=>rfl
 |some y=>simp[cN,wK]
theorem P4 {f:α->β} {s:AS α} (hs:bx s) (h:Int) (x:α):cN f (cF s h x)=cF (cN f s) h (f x):=by
 unfold cF;rw[FZ hs];split
 .exact adU _ _ _
 .rfl
theorem JP {f:α->β} {s:AS α} (hs:bx s) (z:α) (h:Int):cI (f z) (cN f s) h=(cN f (cI z s h).1,f (cI z s h).2.1,(cI z s h).2.2):=by
 unfold cI;rw[FZ hs];cases hf:find s h with
 |none=>rfl
 |some i=>
  rw[gg,gg,uK];cases hy:s.sp[i]? with
  |none=>rfl
  |some y=>simp only[qR,adM]
theorem P5 {f:α->β} {s:AS α} (hs:bx s) (z:α) (h:Int):gz (f z) (cN f s) h=cN f (gz z s h):=by unfold gz;rw[JP hs]
theorem P6 {f:α->β} {s:AS α} (h:bx (cN f s)):bx s:=by
 refine⟨h.yO,h.ie,h.qu,h.qv,by simpa[cN] using h.len,λy hy=> ?_,λi hi=> ?_,h.nd,?_,by simpa[cN] using h.lE⟩
 .exact h.g ⟨f y.x,y.g,y.st⟩ (List.mem_map_of_mem (f:=λy:bK α=>(⟨f y.x,y.g,y.st⟩:bK β)) hy)
 .obtain⟨y,hy,h0⟩:=h.fr i hi;rw[uK] at hy;obtain⟨z,hz,rfl⟩:=dd.1 hy;exact⟨z,hz,h0⟩
 .have:=h.bn;simp only[cN,List.countP_map] at this;rw[this];rfl
theorem CZ {s:AS α} (hs:bx s) {h:Int}:(∃e,bg s h=some e)↔h∈fH 0 s.sp:=by
 rw[qw];constructor
 .rintro⟨e,hp⟩;obtain⟨p,hp,e1,_⟩:=F0.1 ((rC hs).1 hp);exact fC.2 ⟨p,hp,e1.symm⟩
 .intro hm;obtain⟨p,hp,e1⟩:=fC.1 hm;exact⟨p.2.x,(rC hs).2 (F0.2 ⟨p,hp,e1.symm,rfl⟩)⟩
theorem F3 {s:AS α} (hs:bx s):(fH 0 s.sp).length=s.bn:=by rw[PH,hs.bn]
theorem P7:∀(l m:aJ),l.Nodup->(∀a∈l,a∈m)->l.length<=m.length
 |[],m,_,_=>pb _
 |a::l,m,hn,hm=>by rw[vq] at hn;have ha:=hm a (.head _);have h1:=P7 l (m.erase a) hn.2 λb hb=>(List.mem_erase_of_ne (λe:b=a=>hn.1 (e▸hb))).2 (hm b (.tail _ hb));have h2:=List.length_erase_of_mem ha;have h3:=List.length_pos_of_mem ha;rw[iB];omega
theorem P8 {s:AS α} (hs:bx s) {l:aJ} (hn:l.Nodup) (hl:∀a∈l,∃e,bg s a=some e):l.length<=s.bn:=by rw[<-F3 hs];exact P7 l _ hn λa ha=>(CZ hs).1 (hl a ha)
end
end Go.Proofs.YtjhnnnfnkjighaaGreatDoor
namespace Go.Sp
open Go.RowKit
def jx (t:TypeId) (p:Option Addr) (l c:Nat) (xs:List Value):HP:=
 ⟨λh=>xs.length=l/\((p=none/\l=0/\c=0)\/∃g cur off,p=some ⟨g,off,none⟩/\h g=some (.cells cur t (0,0))/\l<=c/\c<=maxLen/\off+c<=cur.size/\(cur.toList.drop off).take l=xs)⟩
section
variable {O w:World} {F:HP} {t:TypeId} {p:Option Addr} {l c:Nat} {xs:List Value}
theorem F4 (h:V O (own t 1 p l c xs*F) w):V O (jx t p l c xs*F) w:=h.imp λk ⟨hl,a⟩=>⟨by simpa using hl,a.imp id λ⟨g,cur,e,hg,h1,h2,h3,h4⟩=>⟨g,cur,0,e,hg,h1,h2,by omega,by simpa using h4⟩⟩
theorem P9 (t:TypeId) (h:V O F w):V O (jx t none 0 0 []*F) w:=F4 (h.iZ t 1)
theorem F5 (h:V O (jx t p l c xs*F) w):xs.length=l/\((p=none/\l=0/\c=0)\/∃g cur off,p=some ⟨g,off,none⟩/\l<=c/\c<=maxLen/\off+c<=cur.size/\(cur.toList.drop off).take l=xs/\V O (ab g cur t*F) w):=by obtain⟨k,hk,h1,h2,ha,s1,s2,⟨hl,a⟩,b⟩:=h.heap;refine⟨hl,a.imp id ?_⟩;rintro⟨g,cur,off,e,hg,q1,q2,q3,q4⟩;exact⟨g,cur,off,e,q1,q2,q3,q4,h.os,h.tape,h.output,h.size,k,hk,h1,h2,ha,s1,s2,hg,b⟩
theorem JQ {g off:Nat} {cur:Array Value} (h:V O (ab g cur t*F) w) (h0:xs.length=l) (h1:l<=c) (h2:c<=maxLen) (h3:off+c<=cur.size) (h4:(cur.toList.drop off).take l=xs):V O (jx t (some ⟨g,off,none⟩) l c xs*F) w:=h.imp λk a=>⟨h0,.inr ⟨g,cur,off,rfl,a,h1,h2,h3,h4⟩⟩
theorem Qa (h:V O (jx t p l c xs*F) w):l<=c:=by
 obtain⟨_,⟨_,h1,h2⟩|⟨g,cur,off,_,h1,_⟩⟩:=F5 h
 .omega
 .exact h1
theorem JR (h:V O (jx t p l c xs*F) w):Rd w 1 p l xs:=by
 obtain⟨hl,⟨rfl,h1,h2⟩|⟨g,cur,off,rfl,h1,h2,h3,h4,h5⟩⟩:=F5 h
 .exact⟨by omega,λhp=>absurd hp (by omega),λa e=>by cases e⟩
 .refine⟨by omega,λ_=>⟨_,rfl⟩,λa e j u hj=> ?_⟩;cases e;rw[du];refine h5.left.cell ?_;rw[<-h4,vp] at hj;split at hj
  .rw[qP] at hj;simpa using hj
  .cases hj
theorem Qb {x:Value} (h:V O (jx t p (l+1) c (x::xs)*F) w):V O (jx t (if c=1 then p else p.map (·.add 1)) l (c- 1) xs*F) w:=by
 obtain⟨hl,⟨rfl,h1,h2⟩|⟨g,cur,off,rfl,h1,h2,h3,h4,h5⟩⟩:=F5 h
 .omega
 .rw[iB] at hl;have ug:(cur.toList.drop (off+1)).take l=xs:=by
   have hd:cur.toList.drop off=cur.toList.drop off:=rfl;have aQ:off<cur.toList.length:=by rw[pW];omega
   rw[ll aQ,Ca] at h4;exact(List.cons.inj h4).2
  by_cases hc:c=1
  .rw[if_pos hc];have:l=0:=by omega
   subst this;have:xs=[]:=m5 (by omega);subst this;exact JQ h5 rfl (by omega) (by omega) (by omega) (by simp)
  .rw[if_neg hc];show V O (jx t (some ((⟨g,off,none⟩:Addr).add 1)) l (c- 1) xs*F) w;rw[du];exact JQ h5 (by omega) (by omega) (by omega) (by omega) ug
theorem Qc {P:Program} {st ty t':TypeId} {z v:Value} {bytes k:Nat} {K:Option Addr->Nat->Nat->World->Prop} (T:fe P st t z 1 bytes) (h:V O (ab k #[v] t'*(jx t p l c xs*F)) w) (h1:v.oneCell'=true) (ra:l+1<=maxLen) (hb:(l+1)*bytes<=140737488355328) (hk:∀p' c' w',V O (jx t p' (l+1) c' (xs++[v])*F) w'->K p' (l+1) c' w'): bR P (Builtin.append_ #[st,st] ty #[.slice p l c,.slice (aU k) 1 1]) w K:=by
 obtain⟨i,hi,hz,gW,qm⟩:=T.parts;have hv:=h.left.cell (i:=0) (v:=v) rfl;have Qd:∀j u,[v][j]?=some u->w.cell? ((aD k).add j)=some u:=by
  intro j u hj;cases j with
  |zero=>simp at hj;subst hj;rw[Sp.add_zero];exact hv
  |succ j=>simp at hj
 obtain⟨hl,⟨rfl,rfl,rfl⟩|⟨g,cur,off,rfl,q1,q2,q3,q4,q5⟩⟩:=F5 (h.p1)
 .have:xs=[]:=m5 hl;subst this;exact oG T (h.right.right.iZ t 1|>.cQ|>.right|>λ_=>(((h.p1).right.iZ t 1).p1)) h1 ra hb λp' c' w' h'=>hk p' c' w' (F4 h')
 .by_cases sr:l+1<=c
  .have hc:=q5.left.Cx;have aQ:off+l<cur.size:=by omega
   have hr:=run_append_room_cells (P:=P) w st ty t i T.under hi g off l c (aD k) 1 1 [v] (by simp[gW]) Qd (by simpa using h1) sr (λj hj=>by
     have:j=0:=by simpa using hj
     subst this;rw[gW];simp only[World.cell?,hc,sZ,jT];simp[aQ])
    (λj hj=>by simp only[World.frozen?,hc];simp)
   refine⟨some ⟨g,off,none⟩,l+1,c,_,hr,hk _ _ _ ?_⟩;rw[gW,jT];show V O _ (w.setCell ⟨g,off+l,none⟩ v);have h6:=(q5.setCell v aQ).p1;refine JQ h6.right (by simp[hl]) sr q2 (by simpa using q3) ?_;have e:(cur.setIfInBounds (off+l) v).toList=cur.toList.set (off+l) v:=by simp
   rw[e];apply qQ;intro j;rw[vp];split
   .rename_i hj;rw[qP,jR];by_cases iM:j=l
    .subst iM;rw[if_pos rfl,if_pos (by rw[pW];exact aQ),ix (by omega),hl];simp
    .rw[if_neg (by omega),r9 (by omega),<-q4,List.getElem?_take_of_lt (by omega),qP]
   .rename_i hj;rw[ua (by simp;omega)]
  .have hold:∀j u,xs[j]?=some u->w.cell? ((⟨g,off,none⟩:Addr).add j)=some u:=λj u hj=>(JR (h.p1)).get rfl hj;obtain⟨v',w',hr,qW,hg⟩:=run_append_arg_grows (P:=P) w st ty t i z 1 bytes T.under hi hz gW qm T.cells T.pos ⟨g,off,none⟩ l c xs (by omega) hold (aD k) 1 1 [v] rfl Qd (by omega) ra hb;have gJ:=qW.2;obtain⟨p',c',rfl⟩:∃p' c',v'=.slice p' (l+1) c':=by
    rcases gJ with⟨rfl,h0⟩|⟨g',cap,Fg,rfl,_⟩
    .omega
    .exact⟨_,cap,rfl⟩
   have adV:w'.ownsRow 0 t 1 (.slice p' (l+1) c') (l+1) (xs++[v]):=⟨qW.1,gJ.imp id λ⟨g',cap,Fg,e,Qe,r⟩=>⟨g',cap,Fg,e,pb _,r⟩⟩;refine⟨p',_,c',w',hr,hk _ _ _ (F4 ?_)⟩;have hF:V O F w:=q5.right.right;refine(hF.iZ t 1).yy adV hg (.inr ?_);rcases gJ with⟨e,h0⟩|⟨g',cap,Fg,e,Qe,r⟩
   .omega
   .rw[e];exact⟨g',rfl,Qe⟩
end
end Go.Sp
