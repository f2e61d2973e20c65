/- Whole: a part of the proof. No conditions. -/
import Derived.Test.YtjhnnnfnkjighaaGreatDoorQ11
set_option linter.unusedVariables false
set_option linter.unusedSimpArgs false
set_option maxRecDepth 100000
namespace Go.Proofs.YtjhnnnfnkjighaaGreatDoor
open Go.Sp Go.RowKit
abbrev Py:=Option Nat
def qy (x:Py):Value:=ag (x.map λk=>(aD k))
structure F6 (C0 AU AV AW C1 vT:FuncId) (Ar:Nat->AS Py->HP):Prop where
 new:∀{O w:ao} {F:HP} {aR first:Int},V O F w->1<=aR->aR<=65536->first≠0->ae C0 #[aa aR,aH first] w λv w'=>∃a,v=ak #[al a,aa 0]/\V O (Ar a ⟨aR,first,[],[],0⟩*F) w'
 get:∀{O w:ao} {F:HP} {a:Nat} {s:AS Py} {h:Int},V O (Ar a s*F) w->0<=h->h<=18446744073709551615->
  ae AU #[al a,ah h] w λv w'=>w'=w/\v=ak #[qy ((bg s h).getD none),aa (if(bg s h).isSome then 0 else 2)]
 put:∀{O w:ao} {F:HP} {a:Nat} {s:AS Py} {x:Py},V O (Ar a s*F) w->bx s->
  ae AV #[al a,qy x] w λv w'=>v=ak #[ah (put s x).2.1,aa (put s x).2.2]/\V O (Ar a (put s x).1*F) w'
 drop:∀{O w:ao} {F:HP} {a:Nat} {s:AS Py} {h:Int},V O (Ar a s*F) w->bx s->0<=h->h<=18446744073709551615->
  ae AW #[al a,ah h] w λv w'=>v=ak #[qy (cI none s h).2.1,aa (cI none s h).2.2]/\V O (Ar a (cI none s h).1*F) w'
 all:∀{O w:ao} {F:HP} {x:av},V O F w->ae C1 #[ag x] w λv w'=>∃k t,v=.func (.func vT) #[] #[al k]/\V O (ab k #[ag x] t*F) w'
 C2:∀{O:ao} {k a t:Nat} {xs:List aM} {bG:Nat->HP},(∀w,V O (bG 0) w->V O (ab k #[al a] t) w)->
  (∀w,V O (bG 0) w->∃s:AS Py,bx s/\V O (Ar a s) w/\((cq 0 s.sp).map λp=>#[ah (hd p.1 p.2.g),qy p.2.x])=xs)->iD au O vT #[al k] bG xs
 body:∃fn c,Tryz.prog.funcs[vT]?=some fn/\fn.body=some c
section
variable {α lm:Type} {z:α} {OH:Nat->α->lm->HP}
abbrev jL (α lm:Type):=Option (Nat×α×lm)
def pO (x:jL α lm):Py:=x.map (·.1)
def mO (z:α) (x:jL α lm):α:=match x with|some q=>q.2.1|none=>z
def sH (OH:Nat->α->lm->HP) (x:jL α lm):HP:=match x with|some q=>OH q.1 q.2.1 q.2.2|none=>cW
def j9 (OH:Nat->α->lm->HP):List (bK (jL α lm))->HP
 |[]=>cW
 |y::ys=>sH OH y.x*j9 OH ys
theorem F7 {ys:List (bK (jL α lm))} {i:Nat} {y:bK (jL α lm)} (h:ys[i]?=some y):j9 OH ys=sH OH y.x*j9 OH (ys.eraseIdx i):=by
 induction ys generalizing i with
 |nil=>simp at h
 |cons z ys ih=>
  cases i with
  |zero=>simp at h;subst h;rfl
  |succ i=>rw[B4,j9,j9,ih (by simpa using h)];ac_rfl
theorem JS {ys:List (bK (jL α lm))} {i:Nat} {z:bK (jL α lm)} (h:i<ys.length):j9 OH (ys.set i z)=sH OH z.x*j9 OH (ys.eraseIdx i):=by
 have e:=F7 (OH:=OH) (ys:=ys.set i z) (i:=i) (y:=z) (by simp[h]);rw[e];congr 2;apply qQ;intro j;rw[B6,B6];split
 .rw[jR,if_neg (by omega)]
 .rw[jR,if_neg (by omega)]
theorem adW {ys:List (bK (jL α lm))} {z:bK (jL α lm)}:j9 OH (ys++[z])=sH OH z.x*j9 OH ys:=by
 induction ys with
 |nil=>rfl
 |cons y ys ih=>rw[pX,j9,j9,ih];ac_rfl
abbrev iS:=Int->Option Nat
def qz (P:iS) (h:Int) (k:Option Nat):iS:=λx=>if x=h then k else P x
structure mT (z:α) (P:iS) (S:AS α) (s:AS (jL α lm)):Prop where
 om:cN (mO z) s=S
 sm:∀y∈s.sp,y.st=1->∃q,y.x=some q
 ptr:∀h,P h=(bg s h).bind pO
theorem mT.ok {P:iS} {S:AS α} {s:AS (jL α lm)} (h:mT z P S s) (hs:bx S):bx s:=P6 (h.om▸hs)
theorem mT.get {P:iS} {S:AS α} {s:AS (jL α lm)} (hs:mT z P S s) (ho:bx S) {h:Int} {o:α} (hp:bg S h=some o):∃i y k L,find s h=some i/\s.sp[i]?=some y/\y.st=1/\h=hd i y.g/\y.x=some (k,o,L)/\P h=some k/\bg s h=some (some (k,o,L)):=by have cA:=hs.ok ho;rw[<-hs.om,CY cA] at hp;obtain⟨x,hx,e⟩:=dd.1 hp;obtain⟨i,y,h1,h2,h3,h4,h5⟩:=tz cA hx;obtain⟨⟨k,o',L⟩,hq⟩:=hs.sm y (dF h2) h3;rw[<-h5,hq] at e;have e:o'=o:=e;subst e;refine⟨i,y,k,L,h1,h2,h3,h4,hq,?_,by rw[hx,<-h5,hq]⟩;rw[hs.ptr,hx,<-h5,hq];rfl
theorem mT.AN {P:iS} {S:AS α} {s:AS (jL α lm)} (hs:mT z P S s) (ho:bx S) {h:Int} (hp:bg S h=none):bg s h=none/\P h=none/\find s h=none:=by
 have cA:=hs.ok ho;rw[<-hs.om,CY cA] at hp;have hx:bg s h=none:=by simpa using hp
 refine⟨hx,by rw[hs.ptr,hx];rfl,?_⟩;cases hf:find s h with
 |none=>rfl
 |some i=>obtain⟨y,hy,_⟩:=(l6 cA).1 hf;rw[bg,hf,gg,hy] at hx;cases hx
theorem mT.up {P:iS} {S:AS α} {s:AS (jL α lm)} (hs:mT z P S s) (ho:bx S) {h:Int} {o o':α} {k:Nat} {L L':lm} (hp:bg s h=some (some (k,o,L))):mT z P (cF S h o') (cF s h (some (k,o',L'))):=by
 have cA:=hs.ok ho;refine⟨?_,?_,λx=> ?_⟩
 .rw[P4 cA,hs.om];rfl
 .intro y hy h1;unfold cF at hy;split at hy
  .rename_i i hi;obtain⟨z,hz,_⟩:=(l6 cA).1 hi;rw[uM hz] at hy;rcases pS hy with hy|rfl
   .exact hs.sm y hy h1
   .exact⟨_,rfl⟩
  .exact hs.sm y hy h1
 .rw[nS cA hp];split
  .rename_i e;rw[e,hs.ptr,hp];rfl
  .exact hs.ptr x
theorem adX {O w:ao} {F:HP} {s:AS (jL α lm)} (hs:bx s) {q:Nat×α×lm} (h:V O (OH q.1 q.2.1 q.2.2*(j9 OH s.sp*F)) w):V O (j9 OH (put s (some q)).1.sp*F) w:=by
 rcases nQ hs (some q) with⟨fr,i,y,cv,hy,dk,bt⟩|⟨cv,fy,bt⟩|⟨cv,fy,bt⟩<;>rw[bt]<;>dsimp only
 .rw[JS (ct.1 hy).1];rw[F7 hy] at h;exact(h.p1.a.p2.p1).right.aF (by show _=sH OH (some q)*_*_;rw[sH];ac_rfl)
 .exact h.right
 .rw[adW];exact h.aF (by show _=sH OH (some q)*_*_;rw[sH];ac_rfl)
theorem adY {O w:ao} {F:HP} {s:AS (jL α lm)} {i:Nat} {y:bK (jL α lm)} (hy:s.sp[i]?=some y) (h:V O (j9 OH (s.sp.eraseIdx i)*F) w):V O (j9 OH (jX none s i).sp*F) w:=by
 have aQ:=(ct.1 hy).1;rcases l8 (z:=(none:jL α lm)) hy with⟨_,hd⟩|⟨_,hd⟩<;>rw[hd]<;>dsimp only<;>rw[JS aQ]
 .exact(h.cQ).aF (by show cW*_=sH OH none*_*_;rw[sH];ac_rfl)
 .exact(h.cQ).aF (by show cW*_=sH OH none*_*_;rw[sH];ac_rfl)
theorem mT.JT {P:iS} {S:AS α} {s:AS (jL α lm)} (hs:mT z P S s) (ho:bx S) {q:Nat×α×lm} (he:(put S q.2.1).2.2=0):mT z (qz P (put S q.2.1).2.1 (some q.1)) (put S q.2.1).1 (put s (some q)).1:=by
 have cA:=hs.ok ho;have hm:=AT (f:=mO z) cA (some q);rw[hs.om] at hm;have hm:put S q.2.1=(cN (mO z) (put s (some q)).1,(put s (some q)).2):=hm;have xx:(put s (some q)).2.2=0:=by rw[hm] at he;exact he
 refine⟨by rw[hm],λy hy h1=> ?_,λx=> ?_⟩
 .rcases nQ cA (some q) with⟨fr,i,z,cv,hz,dk,bt⟩|⟨cv,fy,bt⟩|⟨cv,fy,bt⟩<;>rw[bt] at hy
  .rcases pS hy with hy|rfl
   .exact hs.sm y hy h1
   .exact⟨q,rfl⟩
  .exact hs.sm y hy h1
  .rcases fj.1 hy with hy|hy
   .exact hs.sm y hy h1
   .rw[mL] at hy;subst hy;exact⟨q,rfl⟩
 .rw[qx cA xx,hm];unfold qz;dsimp only;split
  .rfl
  .exact hs.ptr x
theorem mT.rm {P:iS} {S:AS α} {s:AS (jL α lm)} (hs:mT z P S s) (ho:bx S) {h:Int} {x:jL α lm} (hp:bg s h=some x):mT z (qz P h none) (gz z S h) (gz none s h):=by
 have cA:=hs.ok ho;obtain⟨i,y,h1,h2,h3,h4,h5⟩:=tz cA hp;refine⟨?_,λu hz rb=> ?_,λh'=> ?_⟩
 .have:=P5 (f:=mO z) cA none h;rw[hs.om] at this;exact this.symm
 .rw[vS cA (e:=x) h1 h2] at hz;rcases l8 (z:=(none:jL α lm)) h2 with⟨_,hd⟩|⟨_,hd⟩<;>rw[hd] at hz<;>(rcases pS hz with hz|rfl)
  .exact hs.sm u hz rb
  .cases rb
  .exact hs.sm u hz rb
  .cases rb
 .rw[yU cA hp];unfold qz;split
  .rfl
  .exact hs.ptr h'
def PA (Ar:AS Py->HP) (z:α) (OH:Nat->α->lm->HP) (P:iS) (S:AS α):HP:=ex λs:AS (jL α lm)=>bM (mT z P S s/\bx S)*(Ar (cN pO s)*j9 OH s.sp)
variable {O w:ao} {F:HP} {P:iS} {S:AS α} {Ar:Nat->AS Py->HP} {a:Nat}
theorem PA.aK (h:V O (PA (Ar a) z OH P S*F) w):∃s,mT z P S s/\bx S/\V O (Ar a (cN pO s)*(j9 OH s.sp*F)) w:=by obtain⟨s,h⟩:=V.ex h;have h:=h.a.p1.a.p2;exact⟨s,h.bM.1,h.bM.2,h.right⟩
theorem PA.aI {s:AS (jL α lm)} (hs:mT z P S s) (ho:bx S) (h:V O (Ar a (cN pO s)*(j9 OH s.sp*F)) w):V O (PA (Ar a) z OH P S*F) w:=V.bO s ((h.eL (p:=mT z P S s/\bx S) ⟨hs,ho⟩).g2)
theorem PA.ok (h:V O (PA (Ar a) z OH P S*F) w):bx S:=by obtain⟨_,_,ho,_⟩:=PA.aK h;exact ho
theorem PA.at (h:V O (PA (Ar a) z OH P S*F) w) {x:Int} {o:α} (hp:bg S x=some o): ∃k L R,P x=some k/\V O (OH k o L*(R*F)) w/\∀(o':α) (L':lm) (F':HP) (w':ao),V O (OH k o' L'*(R*F')) w'->V O (PA (Ar a) z OH P (cF S x o')*F') w':=by
 obtain⟨s,hs,ho,h⟩:=PA.aK h;obtain⟨i,y,k,L,h1,h2,h3,h4,h5,h6,h7⟩:=hs.get ho hp;refine⟨k,L,Ar a (cN pO s)*j9 OH (s.sp.eraseIdx i),h6,h.aF ?_,λo' L' F' w' h'=> ?_⟩
 .rw[F7 h2,h5,sH];ac_rfl
 .refine PA.aI (hs.up ho (o':=o') (L':=L') h7) ho.up (h'.aF ?_);have e1:cN pO (cF s x (some (k,o',L')))=cN pO s:=by unfold cF;rw[h1];exact PZ λz hz=>by rw[h2] at hz;cases hz;rw[h5];rfl
  have e2:j9 OH (cF s x (some (k,o',L'))).sp=OH k o' L'*j9 OH (s.sp.eraseIdx i):=by unfold cF;rw[h1];dsimp only;rw[uM h2];exact JS (ct.1 h2).1
  rw[e1,e2];ac_rfl
theorem JU {x:Int} {o:α} (hp:bg S x=some o) (ho:bx S):cF S x o=S:=by
 obtain⟨i,y,h1,h2,h3,h4,h5⟩:=tz ho hp;unfold cF;rw[h1];dsimp only;rw[uM h2,<-h5];have:S.sp.set i ⟨y.x,y.g,y.st⟩=S.sp:=by
  apply qQ;intro j;rw[jR];split
  .rename_i e;subst e;rw[if_pos (ct.1 h2).1,h2]
  .rfl
 rw[this]
section
variable {C0 AU AV AW C1 vT:FuncId} (C:F6 C0 AU AV AW C1 vT Ar)
include C
theorem PA.Qf {h:Int} (hh:V O (PA (Ar a) z OH P S*F) w) (h0:0<=h) (h1:h<=18446744073709551615): ae AU #[al a,ah h] w λv w'=>w'=w/\ ((bg S h=none/\v=ak #[ag none,aa 2])\/∃k o,bg S h=some o/\P h=some k/\v=ak #[al k,aa 0]):=by
 obtain⟨s,hs,ho,h2⟩:=PA.aK hh;refine ay (C.get h2 h0 h1) ?_;rintro v w1 ⟨rfl,hv⟩;refine⟨rfl,?_⟩;rw[CY (hs.ok ho)] at hv;cases hp:bg S h with
 |none=>rw[(hs.AN ho hp).1] at hv;exact .inl ⟨rfl,hv⟩
 |some o=>obtain⟨i,y,k,L,q1,q2,q3,q4,q5,q6,q7⟩:=hs.get ho hp;rw[q7] at hv;exact .inr ⟨k,o,rfl,q6,hv⟩
theorem PA.F8 {k:Nat} {o:α} {L:lm} (hh:V O (OH k o L*(PA (Ar a) z OH P S*F)) w): ae AV #[al a,al k] w λv w'=>v=ak #[ah (put S o).2.1,aa (put S o).2.2]/\ (((put S o).2.2=0/\V O (PA (Ar a) z OH (qz P (put S o).2.1 (some k)) (put S o).1*F) w')\/((put S o).2.2≠0/\V O (PA (Ar a) z OH P S*F) w')):=by
 obtain⟨s,hs,ho,h2⟩:=PA.aK (hh.p1);have cA:=hs.ok ho;refine ay (C.put (x:=pO (some (k,o,L))) h2 cA.cN) ?_;rw[AT cA];rintro _ w1 ⟨rfl,h3⟩;have hm:=AT (f:=mO z) cA (some (k,o,L));rw[hs.om] at hm;have hm:put S o=(cN (mO z) (put s (some (k,o,L))).1,(put s (some (k,o,L))).2):=hm;have qc:(put S o).2=(put s (some (k,o,L))).2:=by rw[hm]
 refine⟨by rw[qc],?_⟩;by_cases he:(put S o).2.2=0
 .refine .inl ⟨he,PA.aI (hs.JT ho (q:=(k,o,L)) he) (ho.put o) ?_⟩;have h4:=adX cA (q:=(k,o,L)) (h3.aF (B:=OH k o L*(j9 OH s.sp*(Ar a (cN pO (put s (some (k,o,L))).1)*F))) (by ac_rfl));exact h4.p1
 .refine .inr ⟨he,PA.aI hs ho ?_⟩;have xx:(put s (some (k,o,L))).2.2≠0:=by rw[<-qc];exact he
  rw[ue cA xx] at h3;exact(h3.aF (B:=OH k o L*(Ar a (cN pO s)*(j9 OH s.sp*F))) (by ac_rfl)).right
theorem PA.C3 {h:Int} {o:α} (hh:V O (PA (Ar a) z OH P S*F) w) (hp:bg S h=some o): ae AW #[al a,ah h] w λv w'=>∃k L,v=ak #[al k,aa 0]/\P h=some k/\V O (OH k o L*(PA (Ar a) z OH (qz P h none) (gz z S h)*F)) w':=by
 obtain⟨s,hs,ho,h2⟩:=PA.aK hh;have cA:=hs.ok ho;obtain⟨i,y,k,L,q1,q2,q3,q4,q5,q6,q7⟩:=hs.get ho hp;have hr:=ni ho hp;refine ay (C.drop h2 cA.cN (by omega) hr.2) ?_;have e:cI (none:Py) (cN pO s) h=(cN pO (cI none s h).1,pO (cI none s h).2.1,(cI none s h).2.2):=JP (f:=pO) cA none h;have e2:cI none s h=(jX none s i,some (k,o,L),0):=by rw[uH q1 q2,q5]
 rw[e];rintro _ w1 ⟨rfl,h3⟩;rw[e2] at h3 ⊢;refine⟨k,L,rfl,q6,?_⟩;have h3:V O (Ar a (cN pO (jX none s i))*(j9 OH s.sp*F)) w1:=h3;rw[F7 q2,q5,sH] at h3;have h4:=adY q2 (h3.p1.a.p1);have yW:gz none s h=jX none s i:=vS cA (e:=(none:jL α lm)) q1 q2;refine(PA.aI (F:=OH k o L*F) (s:=gz none s h) (hs.rm ho q7) (ho.rm h) ?_).p1;rw[yW];exact h4.p2
theorem PA.C2 {k t:Nat} {bG:Nat->HP} (hP:∀w,V O (bG 0) w->V O (ab k #[al a] t) w) (hA:∀w,V O (bG 0) w->V O (PA (Ar a) z OH P S) w): iD au O vT #[al k] bG ((fH 0 S.sp).map λh=>#[ah h,qy (P h)]):=by
 refine C.C2 hP λw hw=> ?_;obtain⟨s,hs,ho,h2⟩:=PA.aK (hA _ hw).cQ.e1;have hk:=hs.ok ho;refine⟨cN pO s,hk.cN,h2.left,?_⟩;have e1:(cq 0 (cN pO s).sp)=(cq 0 s.sp).map λp=>(p.1,⟨pO p.2.x,p.2.g,p.2.st⟩):=JM pO s.sp 0;have e2:fH 0 S.sp=fH 0 s.sp:=by rw[<-hs.om];exact PW (mO z) s 0
 rw[e1,e2,qw,lq,lq];apply yj;intro p hp;obtain⟨h1,h2⟩:=uL p hp;have:bg s (hd p.1 p.2.g)=some p.2.x:=(rC hk).2 ⟨p.1,p.2,h1,h2,rfl,rfl⟩;show#[ah (hd p.1 p.2.g),qy (pO p.2.x)]=#[ah (hd p.1 p.2.g),qy (P (hd p.1 p.2.g))];rw[hs.ptr,this];rfl
end
end
end Go.Proofs.YtjhnnnfnkjighaaGreatDoor
namespace Go.Proofs.YtjhnnnfnkjighaaGreatDoor.St
open Go.Proofs.YtjhnnnfnkjighaaGreatDoor
open Go.Sp Go.RowKit
abbrev gS:Nat:=334
abbrev dI:Nat:=472
abbrev C4:Nat:=332
abbrev cJ:=Option Nat
def nj (x:cJ):av:=x.map λk=>(aD k)
def PV (x:cJ):Value:=ag (nj x)
def bl (y:bK cJ):dB:=[PV y.x,aH y.g,aC (y.st==1)]
theorem bE (y:bK cJ):(bl y).length=3:=rfl
theorem kT (y:bK cJ):∀u∈bl y,u.oneCell'=true:=by simp[bl,PV,Value.oneCell']
def Ar (a:Nat) (s:AS cJ):HP:=ex λp=>ex λl=>ex λc=>ex λq=>ex λm=>ex λd=>
 ab a #[aa s.aR,aH s.first,af p l c,af q m d,aa s.bn] gS*(aE dI 3 bl p l c s.sp*aE 3 1 dm q m d s.fr)
theorem Ar.aK {O w:ao} {F:HP} {a:Nat} {s:AS cJ} (h:V O (Ar a s*F) w):∃p c q d,V O (ab a #[aa s.aR,aH s.first,af p s.sp.length c,af q s.fr.length d,aa s.bn] gS*(aE dI 3 bl p s.sp.length c s.sp*(aE 3 1 dm q s.fr.length d s.fr*F))) w:=by obtain⟨p,h⟩:=V.ex h;obtain⟨l,h⟩:=V.ex h;obtain⟨c,h⟩:=V.ex h;obtain⟨q,h⟩:=V.ex h;obtain⟨m,h⟩:=V.ex h;obtain⟨d,h⟩:=V.ex h;have h:=h.a.p1.a.p2;have e1:=nK bE (by decide) h.right.left;have e2:=nK iN (by decide) h.right.right.left;subst e1 e2;exact⟨p,c,q,d,h⟩
theorem Ar.aI {O w:ao} {F:HP} {a l m:Nat} {aR first:Int} {sp:List (bK cJ)} {fr:List Nat} {bn:Nat} {p q:av} {c d:Nat} (h:V O (ab a #[aa aR,aH first,af p l c,af q m d,aa bn] gS*(aE dI 3 bl p l c sp*(aE 3 1 dm q m d fr*F))) w):V O (Ar a ⟨aR,first,sp,fr,bn⟩*F) w:=V.bO p (V.bO l (V.bO c (V.bO q (V.bO m (V.bO d (h.aF (by ac_rfl)))))))
theorem tA {O w:ao} {F:HP} {aR first:Int} (h:V O F w) (h0:1<=aR) (h1:aR<=65536) (h2:first≠0): ae 73 #[aa aR,aH first] w λv w'=>∃a,v=ak #[al a,aa 0]/\V O (Ar a ⟨aR,first,[],[],0⟩*F) w':=by apply WK;exact aw (by simp;omega)<|aw (by simp;omega)<|aw (by simp;exact h2)<|aG h λb w2 h2=>⟨b,rfl,Ar.aI (l:=0) (m:=0) ((fE dI 3 bl (fE 3 1 dm h2)).aF (by ac_rfl))⟩
theorem sE {h:Int} (h0:0<=h) (h1:h<=18446744073709551615):kN au 274 #[ah h] (ak #[aa (h%4294967296- 1),aH (h/ 4294967296)]):=by
 intro w;apply Am;refine Aq<|aY (by omega) (by omega)<|aY (by omega) (by omega)<|uq (by omega) (by simp only[IntKind.bits];omega) ?_;have e:(2:Int)^(32:Int).toNat=4294967296:=by decide
 rw[e];exact gX (by omega) (by omega) ⟨rfl,rfl⟩
theorem tB {i:Nat} {g:Int} (hi:i<4294967295) (h0:0<=g) (h1:g<=4294967295):gr .or .u64 (g*2^32) ((i:Int)+1)=hd i g:=by
 obtain⟨n,rfl⟩:∃n:Nat,g=n:=⟨g.toNat,by omega⟩;have:=yE (x:=i+1) (b:=n) (i:=32) (by omega) (by omega) (by omega);have e1:((n*2^32:Nat):Int)=(n:Int)*2^32:=by simp
 rw[e1] at this;rw[show(i:Int)+1=((i+1:Nat):Int) by omega,this,hd];omega
theorem kV {i:Nat} {g:Int} (hi:i<4294967295) (h0:0<=g) (h1:g<=4294967295):kN au 62 #[aa i,aH g] (ah (hd i g)):=by intro w;apply Al;refine fx (by omega) (by omega)<|yF (n:=32) (by omega) (by omega) (by omega)<|aY (by omega) (by omega)<|fx (by omega) (by omega) ?_;rw[tB hi h0 h1];exact⟨rfl,rfl⟩
theorem nk {O w:ao} {F:HP} {a c:Nat} {s:AS cJ} {p q:av} {m d:Nat} {h:Int} (hh:V O (ab a #[aa s.aR,aH s.first,af p s.sp.length c,af q m d,aa s.bn] gS*(aE dI 3 bl p s.sp.length c s.sp*F)) w) (h0:0<=h) (h1:h<=18446744073709551615): ae 305 #[al a,ah h] w λv w'=>w'=w/\ match find s h with
   |none=>v=ak #[ag none,aa 0]
   |some i=>∃g,p=some (aD g)/\v=ak #[ag (some ⟨g,i*3,none⟩),aa i]:=by
 apply W1;have hc:w.cell? ⟨a,2,none⟩=some (af p s.sp.length c):=hh.left.cell (i:=2) rfl;refine fY (sE h0 h1) ⟨_,_,rfl,aw rfl<|bU (λaQ=> ?_) (λbW=>aq<|aN hc<|bU (λxg=> ?_) (λoJ=>aq<|aN hc ?_))⟩
 .rw[find,if_pos (by omega)];exact⟨rfl,rfl⟩
 .rw[find,if_neg (by omega),ua (by omega)];exact⟨rfl,rfl⟩
 .obtain⟨y,hy⟩:∃y,s.sp[(h%4294967296- 1).toNat]?=some y:=⟨s.sp[(h%4294967296- 1).toNat]'(by omega),by simp⟩;have hT:=hh.right.left;refine dC bE hT (by decide) (by omega) hy λg hg=>gQ (cU bE (j:=2) hT hg hy (by decide) rfl)<|cy (λhb=> ?_) (λhb=>az (cU bE (j:=1) hT hg hy (by decide) rfl)<|cy (λhn=> ?_) (λhn=> ?_))
  .have hb:y.st≠1:=by simpa using hb
   rw[find,if_neg (by omega),hy];simp[hb]
  .have hn:y.g≠h/ 4294967296:=by simpa using hn
   rw[find,if_neg (by omega),hy];simp[hn]
  .have hb:y.st=1:=by simpa using hb
   have hn:y.g=h/ 4294967296:=by simpa using hn
   rw[find,if_neg (by omega),hy];simp only[hb,hn,and_self,if_true];refine⟨trivial,g,hg,?_⟩;rw[zN (by omega)]
theorem tC {O w:ao} {F:HP} {a:Nat} {s:AS cJ} {h:Int} (hh:V O (Ar a s*F) w) (h0:0<=h) (h1:h<=18446744073709551615): ae 304 #[al a,ah h] w λv w'=>w'=w/\ match(find s h).bind (s.sp[·]?) with
   |none=>v=ak #[ag none,aa 2]
   |some y=>v=ak #[PV y.x,aa 0]:=by
 apply W0;obtain⟨p,c,q,d,hh⟩:=Ar.aK hh;refine ay (nk hh h0 h1) ?_;cases hf:find s h with
 |none=>rintro _ w1 ⟨rfl,rfl⟩;exact⟨_,_,rfl,aW rfl ⟨rfl,rfl⟩⟩
 |some i=>
  rintro _ w1 ⟨rfl,g,hg,rfl⟩;have hy:∃y,s.sp[i]?=some y:=by
   unfold find at hf;split at hf
   .cases hf
   split at hf
   .rename_i y hy;split at hf
    .cases hf;exact⟨y,hy⟩
    .cases hf
   .cases hf
  obtain⟨y,hy⟩:=hy;rw[gg,hy];exact⟨_,_,rfl,aw rfl<|aq<|bh (n:=nj y.x) (cU bE (j:=0) hh.right.left hg hy (by decide) rfl) ⟨rfl,rfl⟩⟩
theorem nT:fe au C4 dI (an #[ag none,aH 0,aC false]) 3 16:=⟨by kernel_rfl,by kernel_rfl,rfl,by decide⟩
theorem tD {O w:ao} {F:HP} {a:Nat} {s:AS cJ} {x:cJ} (h:V O (Ar a s*F) w) (hs:bx s): ae 343 #[al a,PV x] w λv w'=>v=ak #[ah (put s x).2.1,aa (put s x).2.2]/\V O (Ar a (put s x).1*F) w':=by
 apply W5;obtain⟨p,c,q,d,h⟩:=Ar.aK h;have hl:=hs.len;have hm:=hs.ie;have hb:=hs.lE;refine aw rfl<|aq<|aN (h.left.cell (i:=2) rfl) ?_;rcases nQ hs x with⟨fr,i,y,cv,hy,dk,bt⟩|⟨cv,fy,bt⟩|⟨cv,fy,bt⟩
 .have aQ:=(ct.1 hy).1;have hg:=hs.g y (dF hy);have iQ:s.fr.length=fr.length+1:=by simp[cv]
  refine⟨λn w=>n=(i:Int)/\∃q' d',V O (ab a #[aa s.aR,aH s.first,af p s.sp.length c,af q' fr.length d',aa s.bn] gS*(aE dI 3 bl p s.sp.length c s.sp*(aE 3 1 dm q' fr.length d' fr*F))) w,?_,?_⟩
  .refine aq<|aN (h.left.cell (i:=3) rfl)<|aW (by simp;omega)<|aq<|aN (h.left.cell (i:=3) rfl)<|aY (by omega) (by omega) ?_;have nU:s.fr[((s.fr.length:Int)- 1).toNat]?=some i:=by
    have e:((s.fr.length:Int)- 1).toNat=fr.length:=by omega
    rw[e,cv];simp
   refine dC iN h.right.right.left (by decide) (by omega) nU λg hg=>az (cU iN (j:=0) h.right.right.left hg nU (by decide) rfl)<|aq<|aN (h.left.cell (i:=3) rfl)<|aY (by omega) (by omega) ?_;have h3:=h.p2;refine ur (h3:V O (own 3 1 q s.fr.length d (s.fr.flatMap dm)*_) w) (by omega) (by omega) ?_;have e:((s.fr.length:Int)- 1).toNat=fr.length:=by omega
   rw[e];have h4:=yD iN h3 (show fr.length<=s.fr.length by omega);rw[cv,qS rfl] at h4;refine aq<|bD (i:=3) h4.p1 (by simp) λw5 h5=>⟨rfl,q,d,h5.aF ?_⟩;show ab a #[aa s.aR,aH s.first,af p s.sp.length c,af q fr.length d,aa s.bn] gS*_=_;ac_rfl
  .rintro u n w5 ⟨rfl,q',d',h5⟩;have dQ:s.sp[(i:Int).toNat]?=some y:=by rw[cu];exact hy
   refine aq<|aN (h5.left.cell (i:=2) rfl)<|dC bE h5.right.left (by decide) (by omega) dQ λg hg=> ?_;rw[cu];refine g8 bE (y':=⟨x,y.g,y.st⟩) h5.p1 hg hy (by decide) rfl λw6 h6=> ?_;refine g8 bE (y:=⟨x,y.g,y.st⟩) (y':=⟨x,y.g,1⟩) h6 hg (by simp[aQ]) (by decide) rfl λw7 h7=> ?_;rw[jF] at h7;have h7:=h7.p1;refine aq<|az (h7.left.cell (i:=4) rfl)<|aY (by omega) (by omega)<|aq<|bD (i:=4) h7 (by simp) λw8 h8=> ?_;refine az (cU bE (j:=1) (y:=⟨x,y.g,1⟩) h8.right.left hg (by simp[aQ]) (by decide) rfl)<|fY (kV (i:=i) (g:=y.g) (by omega) (by omega) (by omega))<|bI ?_;rw[bt];refine⟨rfl,Ar.aI (l:=s.sp.length) (m:=fr.length) (p:=p) (q:=q') (c:=c) (d:=d') ?_⟩;exact h8
 .rw[bt];refine⟨λ_ _=>False,?_,λ_ _ _ h=>h.elim⟩;refine aq<|aN (h.left.cell (i:=3) rfl)<|aw (by simp[cv])<|aq<|az (h.left.cell (i:=0) rfl)<|aW (by simp[fy]) ⟨rfl,?_⟩;exact Ar.aI h
 .have e0:s.fr.length=0:=by rw[cv];rfl
  refine⟨λn w=>n=(s.sp.length:Int)/\∃p' c',V O (ab a #[aa s.aR,aH s.first,af p' (s.sp.length+1) c',af q 0 d,aa s.bn] gS*(aE dI 3 bl p' (s.sp.length+1) c' (s.sp++[⟨none,s.first,0⟩])*(aE 3 1 dm q 0 d []*F))) w,?_,?_⟩
  .rw[e0,cv] at h;have hd:=h.drew;refine aq<|aN (h.left.cell (i:=3) rfl)<|aw (by simp)<|aq<|az (h.left.cell (i:=0) rfl)<|aw (by simp;omega)<|aq<|aN (hd.left.cell (i:=2) rfl)<|aq<|az (hd.left.cell (i:=1) rfl) ⟨rfl,aG hd λk w3 h3=> ?_⟩;refine ju nT bE (by decide) kT (x:=⟨none,s.first,0⟩) (h3.aF (B:=_*(aE dI 3 bl p s.sp.length c s.sp*(ab a #[aa s.aR,aH s.first,af p s.sp.length c,af q 0 d,aa s.bn] gS*(aE 3 1 dm q 0 d []*F)))) (by ac_rfl)) rfl (by simp only[maxLen];omega) (by omega) λp' c' w4 h4=> ?_;refine aq<|bD (i:=2) h4.p1 (by simp) λw5 h5=>⟨rfl,p',c',?_⟩;exact h5
  .rintro u n w5 ⟨rfl,p',c',h5⟩;have hy:(s.sp++[⟨none,s.first,0⟩])[s.sp.length]?=some (⟨none,s.first,0⟩:bK cJ):=by simp
   have dQ:(s.sp++[⟨none,s.first,0⟩])[(s.sp.length:Int).toNat]?=some (⟨none,s.first,0⟩:bK cJ):=by simp
   have pq:=hs.qu;have oQ:=hs.qv;refine aq<|aN (h5.left.cell (i:=2) rfl)<|dC bE h5.right.left (by decide) (by omega) dQ λg hg=> ?_;rw[cu];refine g8 bE (y':=⟨x,s.first,0⟩) h5.p1 hg hy (by decide) rfl λw6 h6=> ?_;refine g8 bE (y:=⟨x,s.first,0⟩) (y':=⟨x,s.first,1⟩) h6 hg (by simp) (by decide) rfl λw7 h7=> ?_;rw[jF] at h7;have h7:=h7.p1;refine aq<|az (h7.left.cell (i:=4) rfl)<|aY (by omega) (by omega)<|aq<|bD (i:=4) h7 (by simp) λw8 h8=> ?_;refine az (cU bE (j:=1) (y:=⟨x,s.first,1⟩) h8.right.left hg (by simp) (by decide) rfl)<|fY (kV (i:=s.sp.length) (g:=s.first) (by omega) (by omega) (by omega))<|bI ?_;rw[bt];refine⟨rfl,Ar.aI (l:=s.sp.length+1) (m:=0) (p:=p') (q:=q) (c:=c') (d:=d) ?_⟩;have e:(s.sp++[(⟨none,s.first,0⟩:bK cJ)]).set s.sp.length (⟨x,s.first,1⟩:bK cJ)=s.sp++[⟨x,s.first,1⟩]:=by simp
   rw[<-e];exact h8
theorem tE {O w:ao} {F:HP} {a:Nat} {s:AS cJ} {h:Int} (hh:V O (Ar a s*F) w) (hs:bx s) (h0:0<=h) (h1:h<=18446744073709551615): ae 238 #[al a,ah h] w λv w'=>v=ak #[PV (cI none s h).2.1,aa (cI none s h).2.2]/\V O (Ar a (cI none s h).1*F) w':=by
 apply WV;obtain⟨p,c,q,d,hh⟩:=Ar.aK hh;refine ay (nk hh h0 h1) ?_;cases hf:find s h with
 |none=>rintro _ w1 ⟨rfl,rfl⟩;rw[yQ hf];exact⟨_,_,rfl,aW rfl ⟨rfl,Ar.aI hh⟩⟩
 |some i=>
  rintro _ w1 ⟨rfl,g,hg,rfl⟩;obtain⟨y,hy,dk,_⟩:=(l6 hs).1 hf;rw[uH hf hy];have aQ:=(ct.1 hy).1;have rz:=hs.g y (dF hy);have hb:=hs.lE;have hl:=hs.len;have hm:=hs.ie;have hp:=xu (P:=λz:bK cJ=>z.st==1) hy (by simp[dk]);have hk:=hs.bn;obtain⟨dg,nV,cp⟩:∃dg:Int,dg=(if y.g<4294967295 then 0 else 2)/\dg≠1:=⟨_,rfl,by split<;>decide⟩;refine⟨_,_,rfl,aw rfl<|aq<|bh (n:=nj y.x) (cU bE (j:=0) hh.right.left hg hy (by decide) rfl)<|aq ?_⟩;refine g8 bE (y':=⟨none,y.g,1⟩) hh.p1 hg hy (by decide) (by simp[bl,dk,PV,nj]) λw2 h2=>aq ?_;refine g8 bE (y:=⟨none,y.g,1⟩) (y':=⟨none,y.g,dg⟩) h2 hg (by simp[aQ]) (by decide) (by simp[bl,cp]) λw3 h3=> ?_;rw[jF] at h3;have h3:=h3.p1;refine aq<|az (h3.left.cell (i:=4) rfl)<|aY (by omega) (by omega)<|aq<|bD (i:=4) h3 (by simp) λw4 h4=> ?_;have h4:V O (ab a #[aa s.aR,aH s.first,af p s.sp.length c,af q s.fr.length d,aa ((s.bn- 1:Nat):Int)] gS*(aE dI 3 bl p s.sp.length c (s.sp.set i ⟨none,y.g,dg⟩)*(aE 3 1 dm q s.fr.length d s.fr*F))) w4:=by
   have e:((s.bn- 1:Nat):Int)=(s.bn:Int)- 1:=by omega
   rw[e];exact h4
  have kW:(s.sp.set i ⟨none,y.g,dg⟩)[i]?=some (⟨none,y.g,dg⟩:bK cJ):=by simp[aQ]
  refine aq<|az (cU bE (j:=1) h4.right.left hg kW (by decide) rfl)<|bU (λaQ=> ?_) (λbW=> ?_)
  .have e0:dg=0:=by rw[nV,if_pos aQ]
   subst e0;refine aq<|az (cU bE (j:=1) h4.right.left hg kW (by decide) rfl)<|gX (by dsimp only;omega) (by dsimp only at aQ ⊢;omega)<|aq<|g8 bE (y':=⟨none,y.g+1,0⟩) h4.p1 hg kW (by decide) rfl λw5 h5=> ?_;rw[jF] at h5;have h5:=h5.p1;refine aq<|aN (h5.left.cell (i:=3) rfl)<|aG h5 λk w6 h6=> ?_;refine ju nR iN (by decide) Ap (x:=i) (h6.aF (B:=_*(aE 3 1 dm q s.fr.length d s.fr*(ab a #[aa s.aR,aH s.first,af p s.sp.length c,af q s.fr.length d,aa ((s.bn- 1:Nat):Int)] gS*(aE dI 3 bl p s.sp.length c (s.sp.set i ⟨none,y.g+1,0⟩)*F)))) (by ac_rfl)) rfl (by simp only[maxLen];omega) (by omega) λp' c' w7 h7=> ?_;refine aq<|bD (i:=3) h7.p1 (by simp) λw8 h8=>⟨rfl,?_⟩;rcases l8 (z:=(none:cJ)) hy with⟨_,hd⟩|⟨hn,_⟩
   .rw[hd];exact Ar.aI (l:=s.sp.length) (m:=s.fr.length+1) (p:=p) (q:=p') (c:=c) (d:=c') (h8.aF (by show ab a #[aa s.aR,aH s.first,af p s.sp.length c,af p' (s.fr.length+1) c',aa ((s.bn- 1:Nat):Int)] gS*_=_;ac_rfl))
   .exact absurd aQ hn
  .have e0:dg=2:=by rw[nV,if_neg bW]
   subst e0;refine⟨rfl,?_⟩;rcases l8 (z:=(none:cJ)) hy with⟨hn,_⟩|⟨_,hd⟩
   .exact absurd hn bW
   .rw[hd];exact Ar.aI h4
def jf (p:Int×cJ):aM:=#[ah p.1,PV p.2]
def kc (p:Nat×bK cJ):Int×cJ:=(hd p.1 p.2.g,p.2.x)
theorem xy {O w:ao} {F:HP} {x:av} (h:V O F w): ae 135 #[ag x] w λv w'=>∃k t,v=.func (.func 225) #[] #[al k]/\V O (ab k #[ag x] t*F) w':=by apply WN;exact aG h λk w1 h1=>⟨k,_,rfl,h1⟩
theorem C5 {O:ao} {k a t:Nat} {xs:List aM} {bG:Nat->HP} (hP:∀w,V O (bG 0) w->V O (ab k #[al a] t) w) (hA:∀w,V O (bG 0) w->∃s:AS cJ,bx s/\V O (Ar a s) w/\((cq 0 s.sp).map λp=>jf (kc p))=xs): iD au O 225 #[al k] bG xs:=by
 intro f b c B Bx cA hB hy F w h;show ae _ #[.func f b c,al k] w _;apply WR;refine bh ((hP _ (hB 0 _ h.left)).cell (i:=0) rfl)<|aw rfl<|aG h λk2 w1 h1=> ?_;have gO:=hP _ (hB 0 _ h1.right.left);obtain⟨s,hs,C6,rfl⟩:=hA _ (hB 0 _ h1.right.left);have hl:=hs.len;have hm:=hs.ie;obtain⟨p,c5,q,d,h2⟩:=Ar.aK (C6.cQ.e1);refine bh (gO.cell (i:=0) rfl)<|aq<|aN (h2.left.cell (i:=2) rfl) ?_;have hT:V O (own dI 3 p s.sp.length c5 (s.sp.flatMap bl)) w1:=h2.right.left;refine lW nT (V.lx (t:=dI) (sz:=3) (n:=0) h1 rfl (by decide)) hT.rd (λu hu=> ?_) (by simp only[maxLen];omega) (by omega) λp6 c6 w2 h3=> ?_
 .obtain⟨y,_,hu⟩:=zR.1 hu;exact kT y u hu
 rw[dc] at h3 ⊢;have h3:V O (aE dI 3 bl p6 s.sp.length c6 s.sp*(B 0*F)) w2:=h3;refine⟨λn w m=>0<=n/\n<=s.sp.length/\m=s.sp.length- n.toNat/\V O (aE dI 3 bl p6 s.sp.length c6 s.sp*(B (cq 0 (s.sp.take n.toNat)).length*F)) w,⟨_,by omega,by omega,rfl,h3⟩,?_⟩;rintro u n w3 m ⟨h0,h1,rfl,h4⟩;refine bU (λaQ=> ?_) (λbW=>.inl ?_)
 .obtain⟨i,rfl⟩:∃i:Nat,n=i:=⟨n.toNat,by omega⟩;rw[cu] at h4;have hi:i<s.sp.length:=by omega
  obtain⟨y,eT⟩:∃y,s.sp[i]?=some y:=⟨s.sp[i],by simp[hi]⟩;have dQ:s.sp[(i:Int).toNat]?=some y:=by rw[cu];exact eT
  have rz:=hs.g y (dF eT);have e1:((i:Int)+1).toNat=i+1:=by omega
  have e2:s.sp.take (i+1)=s.sp.take i++[y]:=by rw[fV,eT];rfl
  have e3:(s.sp.take i).length=i:=by rw[fB];omega
  refine dC bE h4.left (by decide) (by omega) dQ λg hg=>oF (vs:=(bl y).toArray) rfl (λj hj=> ?_)<|aG h4 λk3 w4 h5=>bL h5 rfl rfl (λu hu=>kT y u hu) λw5 h6=> ?_
  .rw[cu];exact(cU bE (j:=j) (v:=(bl y)[j]'(by rw[bE];exact hj)) h4.left hg eT hj (by simp[bE,hj])).trans (by simp[bE,hj])
  have h6:=h6.drew;have cl:∀(j:Nat) {v:Value},(bl y).toArray[j]?=some v->w5.drew.cell? ((aD k3).add j)=some v:=by intro j v hv;rw[du,dc];exact h6.left.cell hv
  refine gQ (cl 2 rfl)<|cy (λht=> ?_) (λhf=> ?_)
  .have ht:y.st=1:=by simpa using ht
   refine az (cl 1 rfl)<|bh (n:=nj y.x) (cl 0 rfl)<|fY (kV (i:=i) (g:=y.g) (by omega) (by omega) (by omega))<|bI ⟨cl 0 rfl,?_⟩;have hx:((cq 0 s.sp).map λp=>jf (kc p))[(cq 0 (s.sp.take i)).length]?=some (jf (hd i y.g,y.x)):=by
    have e4:s.sp=s.sp.take i++(y::s.sp.drop (i+1)):=by
     conv=>lhs;rw[<-mK i s.sp,ll hi]
     rw[gm hi] at eT;cases eT;rfl
    have e5:cq 0 s.sp=cq 0 (s.sp.take i)++(i,y)::cq (i+1) (s.sp.drop (i+1)):=by conv=>lhs;rw[e4,AR,e3,dc,cq,if_pos ht]
    rw[eZ,e5];simp[kc]
   refine nH (hy _ _ hx (ab k3 (bl y).toArray dI*(aE dI 3 bl p6 s.sp.length c6 s.sp*F)) _ (h6.aF (by ac_rfl))) ?_;rintro v w7 (⟨rfl,h7⟩|⟨rfl,h7⟩)
   .refine cR<|aw rfl<|aY (by omega) (by omega) ⟨_,?_,by omega,by omega,rfl,?_⟩
    .omega
    .rw[e1,e2,sB,if_pos ht,gp];exact(h7.p2.p2).right
   .exact cR<|aW rfl<|.inr ((h7.p2.p2.g1).right)
  .have hf:y.st≠1:=by simpa using hf
   refine aY (by omega) (by omega) ⟨_,by omega,by omega,by omega,rfl,?_⟩;rw[e1,e2,sB,if_neg hf,jS];exact h6.right
 .have e:s.sp.take n.toNat=s.sp:=by rw[eW];omega
  rw[e] at h4;rw[fk];exact h4.right
end Go.Proofs.YtjhnnnfnkjighaaGreatDoor.St
namespace Go.Proofs.YtjhnnnfnkjighaaGreatDoor.Px
open Go.Proofs.YtjhnnnfnkjighaaGreatDoor
open Go.Sp Go.RowKit
abbrev gS:Nat:=337
abbrev dI:Nat:=565
abbrev C4:Nat:=335
abbrev cJ:=Option Nat
def nj (x:cJ):av:=x.map λk=>(aD k)
def PV (x:cJ):Value:=ag (nj x)
def bl (y:bK cJ):dB:=[PV y.x,aH y.g,aC (y.st==1)]
theorem bE (y:bK cJ):(bl y).length=3:=rfl
theorem kT (y:bK cJ):∀u∈bl y,u.oneCell'=true:=by simp[bl,PV,Value.oneCell']
def Ar (a:Nat) (s:AS cJ):HP:=ex λp=>ex λl=>ex λc=>ex λq=>ex λm=>ex λd=>
 ab a #[aa s.aR,aH s.first,af p l c,af q m d,aa s.bn] gS*(aE dI 3 bl p l c s.sp*aE 3 1 dm q m d s.fr)
theorem Ar.aK {O w:ao} {F:HP} {a:Nat} {s:AS cJ} (h:V O (Ar a s*F) w):∃p c q d,V O (ab a #[aa s.aR,aH s.first,af p s.sp.length c,af q s.fr.length d,aa s.bn] gS*(aE dI 3 bl p s.sp.length c s.sp*(aE 3 1 dm q s.fr.length d s.fr*F))) w:=by obtain⟨p,h⟩:=V.ex h;obtain⟨l,h⟩:=V.ex h;obtain⟨c,h⟩:=V.ex h;obtain⟨q,h⟩:=V.ex h;obtain⟨m,h⟩:=V.ex h;obtain⟨d,h⟩:=V.ex h;have h:=h.a.p1.a.p2;have e1:=nK bE (by decide) h.right.left;have e2:=nK iN (by decide) h.right.right.left;subst e1 e2;exact⟨p,c,q,d,h⟩
theorem Ar.aI {O w:ao} {F:HP} {a l m:Nat} {aR first:Int} {sp:List (bK cJ)} {fr:List Nat} {bn:Nat} {p q:av} {c d:Nat} (h:V O (ab a #[aa aR,aH first,af p l c,af q m d,aa bn] gS*(aE dI 3 bl p l c sp*(aE 3 1 dm q m d fr*F))) w):V O (Ar a ⟨aR,first,sp,fr,bn⟩*F) w:=V.bO p (V.bO l (V.bO c (V.bO q (V.bO m (V.bO d (h.aF (by ac_rfl)))))))
theorem tA {O w:ao} {F:HP} {aR first:Int} (h:V O F w) (h0:1<=aR) (h1:aR<=65536) (h2:first≠0): ae 74 #[aa aR,aH first] w λv w'=>∃a,v=ak #[al a,aa 0]/\V O (Ar a ⟨aR,first,[],[],0⟩*F) w':=by apply WL;exact aw (by simp;omega)<|aw (by simp;omega)<|aw (by simp;exact h2)<|aG h λb w2 h2=>⟨b,rfl,Ar.aI (l:=0) (m:=0) ((fE dI 3 bl (fE 3 1 dm h2)).aF (by ac_rfl))⟩
theorem sE {h:Int} (h0:0<=h) (h1:h<=18446744073709551615):kN au 274 #[ah h] (ak #[aa (h%4294967296- 1),aH (h/ 4294967296)]):=by
 intro w;apply Am;refine Aq<|aY (by omega) (by omega)<|aY (by omega) (by omega)<|uq (by omega) (by simp only[IntKind.bits];omega) ?_;have e:(2:Int)^(32:Int).toNat=4294967296:=by decide
 rw[e];exact gX (by omega) (by omega) ⟨rfl,rfl⟩
theorem tB {i:Nat} {g:Int} (hi:i<4294967295) (h0:0<=g) (h1:g<=4294967295):gr .or .u64 (g*2^32) ((i:Int)+1)=hd i g:=by
 obtain⟨n,rfl⟩:∃n:Nat,g=n:=⟨g.toNat,by omega⟩;have:=yE (x:=i+1) (b:=n) (i:=32) (by omega) (by omega) (by omega);have e1:((n*2^32:Nat):Int)=(n:Int)*2^32:=by simp
 rw[e1] at this;rw[show(i:Int)+1=((i+1:Nat):Int) by omega,this,hd];omega
theorem kV {i:Nat} {g:Int} (hi:i<4294967295) (h0:0<=g) (h1:g<=4294967295):kN au 62 #[aa i,aH g] (ah (hd i g)):=by intro w;apply Al;refine fx (by omega) (by omega)<|yF (n:=32) (by omega) (by omega) (by omega)<|aY (by omega) (by omega)<|fx (by omega) (by omega) ?_;rw[tB hi h0 h1];exact⟨rfl,rfl⟩
theorem nk {O w:ao} {F:HP} {a c:Nat} {s:AS cJ} {p q:av} {m d:Nat} {h:Int} (hh:V O (ab a #[aa s.aR,aH s.first,af p s.sp.length c,af q m d,aa s.bn] gS*(aE dI 3 bl p s.sp.length c s.sp*F)) w) (h0:0<=h) (h1:h<=18446744073709551615): ae 331 #[al a,ah h] w λv w'=>w'=w/\ match find s h with
   |none=>v=ak #[ag none,aa 0]
   |some i=>∃g,p=some (aD g)/\v=ak #[ag (some ⟨g,i*3,none⟩),aa i]:=by
 apply W4;have hc:w.cell? ⟨a,2,none⟩=some (af p s.sp.length c):=hh.left.cell (i:=2) rfl;refine fY (sE h0 h1) ⟨_,_,rfl,aw rfl<|bU (λaQ=> ?_) (λbW=>aq<|aN hc<|bU (λxg=> ?_) (λoJ=>aq<|aN hc ?_))⟩
 .rw[find,if_pos (by omega)];exact⟨rfl,rfl⟩
 .rw[find,if_neg (by omega),ua (by omega)];exact⟨rfl,rfl⟩
 .obtain⟨y,hy⟩:∃y,s.sp[(h%4294967296- 1).toNat]?=some y:=⟨s.sp[(h%4294967296- 1).toNat]'(by omega),by simp⟩;have hT:=hh.right.left;refine dC bE hT (by decide) (by omega) hy λg hg=>gQ (cU bE (j:=2) hT hg hy (by decide) rfl)<|cy (λhb=> ?_) (λhb=>az (cU bE (j:=1) hT hg hy (by decide) rfl)<|cy (λhn=> ?_) (λhn=> ?_))
  .have hb:y.st≠1:=by simpa using hb
   rw[find,if_neg (by omega),hy];simp[hb]
  .have hn:y.g≠h/ 4294967296:=by simpa using hn
   rw[find,if_neg (by omega),hy];simp[hn]
  .have hb:y.st=1:=by simpa using hb
   have hn:y.g=h/ 4294967296:=by simpa using hn
   rw[find,if_neg (by omega),hy];simp only[hb,hn,and_self,if_true];refine⟨trivial,g,hg,?_⟩;rw[zN (by omega)]
theorem tC {O w:ao} {F:HP} {a:Nat} {s:AS cJ} {h:Int} (hh:V O (Ar a s*F) w) (h0:0<=h) (h1:h<=18446744073709551615): ae 258 #[al a,ah h] w λv w'=>w'=w/\ match(find s h).bind (s.sp[·]?) with
   |none=>v=ak #[ag none,aa 2]
   |some y=>v=ak #[PV y.x,aa 0]:=by
 apply WW;obtain⟨p,c,q,d,hh⟩:=Ar.aK hh;refine ay (nk hh h0 h1) ?_;cases hf:find s h with
 |none=>rintro _ w1 ⟨rfl,rfl⟩;exact⟨_,_,rfl,aW rfl ⟨rfl,rfl⟩⟩
 |some i=>
  rintro _ w1 ⟨rfl,g,hg,rfl⟩;have hy:∃y,s.sp[i]?=some y:=by
   unfold find at hf;split at hf
   .cases hf
   split at hf
   .rename_i y hy;split at hf
    .cases hf;exact⟨y,hy⟩
    .cases hf
   .cases hf
  obtain⟨y,hy⟩:=hy;rw[gg,hy];exact⟨_,_,rfl,aw rfl<|aq<|bh (n:=nj y.x) (cU bE (j:=0) hh.right.left hg hy (by decide) rfl) ⟨rfl,rfl⟩⟩
theorem nT:fe au C4 dI (an #[ag none,aH 0,aC false]) 3 16:=⟨by kernel_rfl,by kernel_rfl,rfl,by decide⟩
theorem tD {O w:ao} {F:HP} {a:Nat} {s:AS cJ} {x:cJ} (h:V O (Ar a s*F) w) (hs:bx s): ae 384 #[al a,PV x] w λv w'=>v=ak #[ah (put s x).2.1,aa (put s x).2.2]/\V O (Ar a (put s x).1*F) w':=by
 apply W6;obtain⟨p,c,q,d,h⟩:=Ar.aK h;have hl:=hs.len;have hm:=hs.ie;have hb:=hs.lE;refine aw rfl<|aq<|aN (h.left.cell (i:=2) rfl) ?_;rcases nQ hs x with⟨fr,i,y,cv,hy,dk,bt⟩|⟨cv,fy,bt⟩|⟨cv,fy,bt⟩
 .have aQ:=(ct.1 hy).1;have hg:=hs.g y (dF hy);have iQ:s.fr.length=fr.length+1:=by simp[cv]
  refine⟨λn w=>n=(i:Int)/\∃q' d',V O (ab a #[aa s.aR,aH s.first,af p s.sp.length c,af q' fr.length d',aa s.bn] gS*(aE dI 3 bl p s.sp.length c s.sp*(aE 3 1 dm q' fr.length d' fr*F))) w,?_,?_⟩
  .refine aq<|aN (h.left.cell (i:=3) rfl)<|aW (by simp;omega)<|aq<|aN (h.left.cell (i:=3) rfl)<|aY (by omega) (by omega) ?_;have nU:s.fr[((s.fr.length:Int)- 1).toNat]?=some i:=by
    have e:((s.fr.length:Int)- 1).toNat=fr.length:=by omega
    rw[e,cv];simp
   refine dC iN h.right.right.left (by decide) (by omega) nU λg hg=>az (cU iN (j:=0) h.right.right.left hg nU (by decide) rfl)<|aq<|aN (h.left.cell (i:=3) rfl)<|aY (by omega) (by omega) ?_;have h3:=h.p2;refine ur (h3:V O (own 3 1 q s.fr.length d (s.fr.flatMap dm)*_) w) (by omega) (by omega) ?_;have e:((s.fr.length:Int)- 1).toNat=fr.length:=by omega
   rw[e];have h4:=yD iN h3 (show fr.length<=s.fr.length by omega);rw[cv,qS rfl] at h4;refine aq<|bD (i:=3) h4.p1 (by simp) λw5 h5=>⟨rfl,q,d,h5.aF ?_⟩;show ab a #[aa s.aR,aH s.first,af p s.sp.length c,af q fr.length d,aa s.bn] gS*_=_;ac_rfl
  .rintro u n w5 ⟨rfl,q',d',h5⟩;have dQ:s.sp[(i:Int).toNat]?=some y:=by rw[cu];exact hy
   refine aq<|aN (h5.left.cell (i:=2) rfl)<|dC bE h5.right.left (by decide) (by omega) dQ λg hg=> ?_;rw[cu];refine g8 bE (y':=⟨x,y.g,y.st⟩) h5.p1 hg hy (by decide) rfl λw6 h6=> ?_;refine g8 bE (y:=⟨x,y.g,y.st⟩) (y':=⟨x,y.g,1⟩) h6 hg (by simp[aQ]) (by decide) rfl λw7 h7=> ?_;rw[jF] at h7;have h7:=h7.p1;refine aq<|az (h7.left.cell (i:=4) rfl)<|aY (by omega) (by omega)<|aq<|bD (i:=4) h7 (by simp) λw8 h8=> ?_;refine az (cU bE (j:=1) (y:=⟨x,y.g,1⟩) h8.right.left hg (by simp[aQ]) (by decide) rfl)<|fY (kV (i:=i) (g:=y.g) (by omega) (by omega) (by omega))<|bI ?_;rw[bt];refine⟨rfl,Ar.aI (l:=s.sp.length) (m:=fr.length) (p:=p) (q:=q') (c:=c) (d:=d') ?_⟩;exact h8
 .rw[bt];refine⟨λ_ _=>False,?_,λ_ _ _ h=>h.elim⟩;refine aq<|aN (h.left.cell (i:=3) rfl)<|aw (by simp[cv])<|aq<|az (h.left.cell (i:=0) rfl)<|aW (by simp[fy]) ⟨rfl,?_⟩;exact Ar.aI h
 .have e0:s.fr.length=0:=by rw[cv];rfl
  refine⟨λn w=>n=(s.sp.length:Int)/\∃p' c',V O (ab a #[aa s.aR,aH s.first,af p' (s.sp.length+1) c',af q 0 d,aa s.bn] gS*(aE dI 3 bl p' (s.sp.length+1) c' (s.sp++[⟨none,s.first,0⟩])*(aE 3 1 dm q 0 d []*F))) w,?_,?_⟩
  .rw[e0,cv] at h;have hd:=h.drew;refine aq<|aN (h.left.cell (i:=3) rfl)<|aw (by simp)<|aq<|az (h.left.cell (i:=0) rfl)<|aw (by simp;omega)<|aq<|aN (hd.left.cell (i:=2) rfl)<|aq<|az (hd.left.cell (i:=1) rfl) ⟨rfl,aG hd λk w3 h3=> ?_⟩;refine ju nT bE (by decide) kT (x:=⟨none,s.first,0⟩) (h3.aF (B:=_*(aE dI 3 bl p s.sp.length c s.sp*(ab a #[aa s.aR,aH s.first,af p s.sp.length c,af q 0 d,aa s.bn] gS*(aE 3 1 dm q 0 d []*F)))) (by ac_rfl)) rfl (by simp only[maxLen];omega) (by omega) λp' c' w4 h4=> ?_;refine aq<|bD (i:=2) h4.p1 (by simp) λw5 h5=>⟨rfl,p',c',?_⟩;exact h5
  .rintro u n w5 ⟨rfl,p',c',h5⟩;have hy:(s.sp++[⟨none,s.first,0⟩])[s.sp.length]?=some (⟨none,s.first,0⟩:bK cJ):=by simp
   have dQ:(s.sp++[⟨none,s.first,0⟩])[(s.sp.length:Int).toNat]?=some (⟨none,s.first,0⟩:bK cJ):=by simp
   have pq:=hs.qu;have oQ:=hs.qv;refine aq<|aN (h5.left.cell (i:=2) rfl)<|dC bE h5.right.left (by decide) (by omega) dQ λg hg=> ?_;rw[cu];refine g8 bE (y':=⟨x,s.first,0⟩) h5.p1 hg hy (by decide) rfl λw6 h6=> ?_;refine g8 bE (y:=⟨x,s.first,0⟩) (y':=⟨x,s.first,1⟩) h6 hg (by simp) (by decide) rfl λw7 h7=> ?_;rw[jF] at h7;have h7:=h7.p1;refine aq<|az (h7.left.cell (i:=4) rfl)<|aY (by omega) (by omega)<|aq<|bD (i:=4) h7 (by simp) λw8 h8=> ?_;refine az (cU bE (j:=1) (y:=⟨x,s.first,1⟩) h8.right.left hg (by simp) (by decide) rfl)<|fY (kV (i:=s.sp.length) (g:=s.first) (by omega) (by omega) (by omega))<|bI ?_;rw[bt];refine⟨rfl,Ar.aI (l:=s.sp.length+1) (m:=0) (p:=p') (q:=q) (c:=c') (d:=d) ?_⟩;have e:(s.sp++[(⟨none,s.first,0⟩:bK cJ)]).set s.sp.length (⟨x,s.first,1⟩:bK cJ)=s.sp++[⟨x,s.first,1⟩]:=by simp
   rw[<-e];exact h8
theorem tE {O w:ao} {F:HP} {a:Nat} {s:AS cJ} {h:Int} (hh:V O (Ar a s*F) w) (hs:bx s) (h0:0<=h) (h1:h<=18446744073709551615): ae 306 #[al a,ah h] w λv w'=>v=ak #[PV (cI none s h).2.1,aa (cI none s h).2.2]/\V O (Ar a (cI none s h).1*F) w':=by
 apply W2;obtain⟨p,c,q,d,hh⟩:=Ar.aK hh;refine ay (nk hh h0 h1) ?_;cases hf:find s h with
 |none=>rintro _ w1 ⟨rfl,rfl⟩;rw[yQ hf];exact⟨_,_,rfl,aW rfl ⟨rfl,Ar.aI hh⟩⟩
 |some i=>
  rintro _ w1 ⟨rfl,g,hg,rfl⟩;obtain⟨y,hy,dk,_⟩:=(l6 hs).1 hf;rw[uH hf hy];have aQ:=(ct.1 hy).1;have rz:=hs.g y (dF hy);have hb:=hs.lE;have hl:=hs.len;have hm:=hs.ie;have hp:=xu (P:=λz:bK cJ=>z.st==1) hy (by simp[dk]);have hk:=hs.bn;obtain⟨dg,nV,cp⟩:∃dg:Int,dg=(if y.g<4294967295 then 0 else 2)/\dg≠1:=⟨_,rfl,by split<;>decide⟩;refine⟨_,_,rfl,aw rfl<|aq<|bh (n:=nj y.x) (cU bE (j:=0) hh.right.left hg hy (by decide) rfl)<|aq ?_⟩;refine g8 bE (y':=⟨none,y.g,1⟩) hh.p1 hg hy (by decide) (by simp[bl,dk,PV,nj]) λw2 h2=>aq ?_;refine g8 bE (y:=⟨none,y.g,1⟩) (y':=⟨none,y.g,dg⟩) h2 hg (by simp[aQ]) (by decide) (by simp[bl,cp]) λw3 h3=> ?_;rw[jF] at h3;have h3:=h3.p1;refine aq<|az (h3.left.cell (i:=4) rfl)<|aY (by omega) (by omega)<|aq<|bD (i:=4) h3 (by simp) λw4 h4=> ?_;have h4:V O (ab a #[aa s.aR,aH s.first,af p s.sp.length c,af q s.fr.length d,aa ((s.bn- 1:Nat):Int)] gS*(aE dI 3 bl p s.sp.length c (s.sp.set i ⟨none,y.g,dg⟩)*(aE 3 1 dm q s.fr.length d s.fr*F))) w4:=by
   have e:((s.bn- 1:Nat):Int)=(s.bn:Int)- 1:=by omega
   rw[e];exact h4
  have kW:(s.sp.set i ⟨none,y.g,dg⟩)[i]?=some (⟨none,y.g,dg⟩:bK cJ):=by simp[aQ]
  refine aq<|az (cU bE (j:=1) h4.right.left hg kW (by decide) rfl)<|bU (λaQ=> ?_) (λbW=> ?_)
  .have e0:dg=0:=by rw[nV,if_pos aQ]
   subst e0;refine aq<|az (cU bE (j:=1) h4.right.left hg kW (by decide) rfl)<|gX (by dsimp only;omega) (by dsimp only at aQ ⊢;omega)<|aq<|g8 bE (y':=⟨none,y.g+1,0⟩) h4.p1 hg kW (by decide) rfl λw5 h5=> ?_;rw[jF] at h5;have h5:=h5.p1;refine aq<|aN (h5.left.cell (i:=3) rfl)<|aG h5 λk w6 h6=> ?_;refine ju nR iN (by decide) Ap (x:=i) (h6.aF (B:=_*(aE 3 1 dm q s.fr.length d s.fr*(ab a #[aa s.aR,aH s.first,af p s.sp.length c,af q s.fr.length d,aa ((s.bn- 1:Nat):Int)] gS*(aE dI 3 bl p s.sp.length c (s.sp.set i ⟨none,y.g+1,0⟩)*F)))) (by ac_rfl)) rfl (by simp only[maxLen];omega) (by omega) λp' c' w7 h7=> ?_;refine aq<|bD (i:=3) h7.p1 (by simp) λw8 h8=>⟨rfl,?_⟩;rcases l8 (z:=(none:cJ)) hy with⟨_,hd⟩|⟨hn,_⟩
   .rw[hd];exact Ar.aI (l:=s.sp.length) (m:=s.fr.length+1) (p:=p) (q:=p') (c:=c) (d:=c') (h8.aF (by show ab a #[aa s.aR,aH s.first,af p s.sp.length c,af p' (s.fr.length+1) c',aa ((s.bn- 1:Nat):Int)] gS*_=_;ac_rfl))
   .exact absurd aQ hn
  .have e0:dg=2:=by rw[nV,if_neg bW]
   subst e0;refine⟨rfl,?_⟩;rcases l8 (z:=(none:cJ)) hy with⟨hn,_⟩|⟨_,hd⟩
   .exact absurd hn bW
   .rw[hd];exact Ar.aI h4
def jf (p:Int×cJ):aM:=#[ah p.1,PV p.2]
def kc (p:Nat×bK cJ):Int×cJ:=(hd p.1 p.2.g,p.2.x)
theorem xy {O w:ao} {F:HP} {x:av} (h:V O F w): ae 223 #[ag x] w λv w'=>∃k t,v=.func (.func 296) #[] #[al k]/\V O (ab k #[ag x] t*F) w':=by apply WQ;exact aG h λk w1 h1=>⟨k,_,rfl,h1⟩
theorem C5 {O:ao} {k a t:Nat} {xs:List aM} {bG:Nat->HP} (hP:∀w,V O (bG 0) w->V O (ab k #[al a] t) w) (hA:∀w,V O (bG 0) w->∃s:AS cJ,bx s/\V O (Ar a s) w/\((cq 0 s.sp).map λp=>jf (kc p))=xs): iD au O 296 #[al k] bG xs:=by
 intro f b c B Bx cA hB hy F w h;show ae _ #[.func f b c,al k] w _;apply WY;refine bh ((hP _ (hB 0 _ h.left)).cell (i:=0) rfl)<|aw rfl<|aG h λk2 w1 h1=> ?_;have gO:=hP _ (hB 0 _ h1.right.left);obtain⟨s,hs,C6,rfl⟩:=hA _ (hB 0 _ h1.right.left);have hl:=hs.len;have hm:=hs.ie;obtain⟨p,c5,q,d,h2⟩:=Ar.aK (C6.cQ.e1);refine bh (gO.cell (i:=0) rfl)<|aq<|aN (h2.left.cell (i:=2) rfl) ?_;have hT:V O (own dI 3 p s.sp.length c5 (s.sp.flatMap bl)) w1:=h2.right.left;refine lW nT (V.lx (t:=dI) (sz:=3) (n:=0) h1 rfl (by decide)) hT.rd (λu hu=> ?_) (by simp only[maxLen];omega) (by omega) λp6 c6 w2 h3=> ?_
 .obtain⟨y,_,hu⟩:=zR.1 hu;exact kT y u hu
 rw[dc] at h3 ⊢;have h3:V O (aE dI 3 bl p6 s.sp.length c6 s.sp*(B 0*F)) w2:=h3;refine⟨λn w m=>0<=n/\n<=s.sp.length/\m=s.sp.length- n.toNat/\V O (aE dI 3 bl p6 s.sp.length c6 s.sp*(B (cq 0 (s.sp.take n.toNat)).length*F)) w,⟨_,by omega,by omega,rfl,h3⟩,?_⟩;rintro u n w3 m ⟨h0,h1,rfl,h4⟩;refine bU (λaQ=> ?_) (λbW=>.inl ?_)
 .obtain⟨i,rfl⟩:∃i:Nat,n=i:=⟨n.toNat,by omega⟩;rw[cu] at h4;have hi:i<s.sp.length:=by omega
  obtain⟨y,eT⟩:∃y,s.sp[i]?=some y:=⟨s.sp[i],by simp[hi]⟩;have dQ:s.sp[(i:Int).toNat]?=some y:=by rw[cu];exact eT
  have rz:=hs.g y (dF eT);have e1:((i:Int)+1).toNat=i+1:=by omega
  have e2:s.sp.take (i+1)=s.sp.take i++[y]:=by rw[fV,eT];rfl
  have e3:(s.sp.take i).length=i:=by rw[fB];omega
  refine dC bE h4.left (by decide) (by omega) dQ λg hg=>oF (vs:=(bl y).toArray) rfl (λj hj=> ?_)<|aG h4 λk3 w4 h5=>bL h5 rfl rfl (λu hu=>kT y u hu) λw5 h6=> ?_
  .rw[cu];exact(cU bE (j:=j) (v:=(bl y)[j]'(by rw[bE];exact hj)) h4.left hg eT hj (by simp[bE,hj])).trans (by simp[bE,hj])
  have h6:=h6.drew;have cl:∀(j:Nat) {v:Value},(bl y).toArray[j]?=some v->w5.drew.cell? ((aD k3).add j)=some v:=by intro j v hv;rw[du,dc];exact h6.left.cell hv
  refine gQ (cl 2 rfl)<|cy (λht=> ?_) (λhf=> ?_)
  .have ht:y.st=1:=by simpa using ht
   refine az (cl 1 rfl)<|bh (n:=nj y.x) (cl 0 rfl)<|fY (kV (i:=i) (g:=y.g) (by omega) (by omega) (by omega))<|bI ⟨cl 0 rfl,?_⟩;have hx:((cq 0 s.sp).map λp=>jf (kc p))[(cq 0 (s.sp.take i)).length]?=some (jf (hd i y.g,y.x)):=by
    have e4:s.sp=s.sp.take i++(y::s.sp.drop (i+1)):=by
     conv=>lhs;rw[<-mK i s.sp,ll hi]
     rw[gm hi] at eT;cases eT;rfl
    have e5:cq 0 s.sp=cq 0 (s.sp.take i)++(i,y)::cq (i+1) (s.sp.drop (i+1)):=by conv=>lhs;rw[e4,AR,e3,dc,cq,if_pos ht]
    rw[eZ,e5];simp[kc]
   refine nH (hy _ _ hx (ab k3 (bl y).toArray dI*(aE dI 3 bl p6 s.sp.length c6 s.sp*F)) _ (h6.aF (by ac_rfl))) ?_;rintro v w7 (⟨rfl,h7⟩|⟨rfl,h7⟩)
   .refine cR<|aw rfl<|aY (by omega) (by omega) ⟨_,?_,by omega,by omega,rfl,?_⟩
    .omega
    .rw[e1,e2,sB,if_pos ht,gp];exact(h7.p2.p2).right
   .exact cR<|aW rfl<|.inr ((h7.p2.p2.g1).right)
  .have hf:y.st≠1:=by simpa using hf
   refine aY (by omega) (by omega) ⟨_,by omega,by omega,by omega,rfl,?_⟩;rw[e1,e2,sB,if_neg hf,jS];exact h6.right
 .have e:s.sp.take n.toNat=s.sp:=by rw[eW];omega
  rw[e] at h4;rw[fk];exact h4.right
end Go.Proofs.YtjhnnnfnkjighaaGreatDoor.Px
namespace Go.Proofs.YtjhnnnfnkjighaaGreatDoor
open Go.Sp Go.RowKit
theorem nW:F6 73 304 343 238 135 225 St.Ar where
 new:=λh h0 h1 h2=>St.tA h h0 h1 h2;get:=λ{O w F a s h} hh h0 h1=>by
  refine ay (St.tC hh h0 h1) ?_;rintro v w1 ⟨rfl,hv⟩;refine⟨rfl,?_⟩;unfold bg;cases hf:find s h with
  |none=>rw[hf] at hv;exact hv
  |some i=>
   rw[hf] at hv;cases hy:s.sp[i]? with
   |none=>rw[gg,hy] at hv;rw[gg,hy];exact hv
   |some y=>rw[gg,hy] at hv;rw[gg,hy];exact hv
 put:=λh hs=>St.tD h hs;drop:=λh hs h0 h1=>St.tE h hs h0 h1;all:=λh=>St.xy h;C2:=λhP hA=>St.C5 hP hA;body:=⟨_,_,Tryz.func225,rfl⟩
theorem uN:F6 74 258 384 306 223 296 Px.Ar where
 new:=λh h0 h1 h2=>Px.tA h h0 h1 h2;get:=λ{O w F a s h} hh h0 h1=>by
  refine ay (Px.tC hh h0 h1) ?_;rintro v w1 ⟨rfl,hv⟩;refine⟨rfl,?_⟩;unfold bg;cases hf:find s h with
  |none=>rw[hf] at hv;exact hv
  |some i=>
   rw[hf] at hv;cases hy:s.sp[i]? with
   |none=>rw[gg,hy] at hv;rw[gg,hy];exact hv
   |some y=>rw[gg,hy] at hv;rw[gg,hy];exact hv
 put:=λh hs=>Px.tD h hs;drop:=λh hs h0 h1=>Px.tE h hs h0 h1;all:=λh=>Px.xy h;C2:=λhP hA=>Px.C5 hP hA;body:=⟨_,_,Tryz.func296,rfl⟩
structure OM where
 cn:Int
 ou:Int
 va:Int
 ln:List (Int×Int)
 cj:aJ
def z0:OM:=⟨0,0,0,[],[]⟩
abbrev HS:=AS OM
def AX (x:Int×Int):Prop:=(-9223372036854775808<=x.1/\x.1<=9223372036854775807)/\0<=x.2/\x.2<=18446744073709551615
structure sF (top:Int) (o:OM):Prop where
 cn:0<=o.cn/\o.cn<=top
 ou:0<=o.ou/\o.ou<=18446744073709551615
 va: -9223372036854775808<=o.va/\o.va<=9223372036854775807
 len:o.ln.length<=8
 ln:∀x∈o.ln,AX x
structure pB (top:Int) (S:HS):Prop where
 ok:bx S
 aR:S.aR<=256
 tp:1<=top/\top<=4294967295
 fN:∀h o,bg S h=some o->sF top o
structure dv (top:Int) (S:HS):Prop extends pB top S where
 out:∀h o,bg S h=some o->o.ou≠0->∃w,bg S o.ou=some w/\w.ou=0/\h∈w.cj
 cj:∀h o,bg S h=some o->∀i∈o.cj,∃x,bg S i=some x/\x.ou=h
 nd:∀h o,bg S h=some o->o.cj.Nodup
theorem pB.bn {top:Int} {S:HS} (h:pB top S):S.bn<=256:=by have:=adT h.ok;have:=h.aR;omega
theorem dv.F9 {top:Int} {S:HS} (h:dv top S) {x:Int} {o:OM} (hp:bg S x=some o):o.cj.length<=S.bn:=P8 h.ok (h.nd x o hp) λi hi=>by obtain⟨y,hy,_⟩:=h.cj x o hp i hi;exact⟨y,hy⟩
theorem AY {S:HS} (hs:bx S) {h:Int} {o:OM} (hp:bg S h=some o):h≠0:=by have:=ni hs hp;omega
def whole (S:HS) (h:Int):Option Int:=(bg S h).map λo=>if o.ou≠0 then o.ou else h
theorem JV {S:HS} {h:Int} (hp:bg S h=none):whole S h=none:=by rw[whole,hp];rfl
theorem Ga {S:HS} {h:Int} {o:OM} (hp:bg S h=some o):whole S h=some (if o.ou≠0 then o.ou else h):=by rw[whole,hp];rfl
theorem dv.whole {top:Int} {S:HS} (hs:dv top S) {h w:Int} (hw:whole S h=some w):∃o,bg S w=some o/\o.ou=0:=by
 cases hp:bg S h with
 |none=>rw[JV hp] at hw;cases hw
 |some o=>
  rw[Ga hp] at hw;split at hw
  .rename_i cp;cases hw;obtain⟨v,h1,h2,_⟩:=hs.out h o hp cp;exact⟨v,h1,h2⟩
  .rename_i he;cases hw;exact⟨o,hp,by simpa using he⟩
def fR (S:HS) (wt fo:aJ) (x:Int×Int):HS×aJ×aJ:=
 if x.1=1 then
  match whole S x.2 with
  |none=>(S,wt,fo)
  |some w=>match bg S w with
   |none=>(S,wt,fo)
   |some o=>if 0<o.cn then(cF S w {o with cn:=o.cn- 1},if o.cn=1 then wt++[w] else wt,fo) else(S,wt,fo)
 else if x.1=2 then(S,wt,fo++[x.2]) else(S,wt,fo)
def gT (r:HS×aJ×aJ) (l:List (Int×Int)):HS×aJ×aJ:=l.foldl (λr x=>fR r.1 r.2.1 r.2.2 x) r
theorem adZ (r:HS×aJ×aJ) (l:List (Int×Int)) (x:Int×Int):gT r (l++[x])=fR (gT r l).1 (gT r l).2.1 (gT r l).2.2 x:=by simp[gT]
theorem Qg (r:HS×aJ×aJ) (l m:List (Int×Int)):gT r (l++m)=gT (gT r l) m:=by simp[gT]
def mb (S:HS) (l:aJ):HS:=l.foldl (λS h=>gz z0 S h) S
theorem ad0 (S:HS) (l:aJ) (h:Int):mb S (l++[h])=gz z0 (mb S l) h:=by simp[mb]
def mc (S:HS) (h:Int):List (Int×Int):=match bg S h with|some o=>o.ln|none=>[]
inductive tF:HS->aJ->aJ->aJ->HS×aJ×aJ->Prop
 |done {S:HS} {gn fo:aJ}:tF S [] gn fo (S,gn,fo)
 |step {S:HS} {h:Int} {wt gn fo:aJ} {o:OM} {q:HS×aJ×aJ} {r:HS×aJ×aJ}:bg S h=some o->q=gT (mb S (h::o.cj),wt,fo) (o.ln++o.cj.flatMap (mc S))->tF q.1 q.2.1 (gn++h::o.cj) q.2.2 r->tF S (h::wt) gn fo r
theorem tF.aZ {S:HS} {wt gn fo:aJ} {r r':HS×aJ×aJ} (h:tF S wt gn fo r) (h':tF S wt gn fo r'):r=r':=by
 induction h generalizing r' with
 |done=>cases h';rfl
 |step hp hq _ ih=>
  cases h' with
  |step cG JW hf=>rw[hp] at cG;cases cG;rw[JW] at hf;rw[hq] at ih;exact ih hf
structure nm (S:HS) (wt:aJ):Prop where
 nd:wt.Nodup
 all:∀h∈wt,∃o,bg S h=some o/\o.ou=0/\o.cn=0
theorem nm.nil {S:HS}:nm S []:=⟨List.nodup_nil,λh hh=>by cases hh⟩
section
variable {top:Int} {S:HS}
theorem pB.up (hs:pB top S) {h:Int} {o o':OM} (hp:bg S h=some o) (ho:sF top o'):pB top (cF S h o'):=
 ⟨hs.ok.up,by rw[yV];exact hs.aR,hs.tp,λx y hy=>by
  rw[nS hs.ok hp] at hy;split at hy
  .cases hy;exact ho
  .exact hs.fN x y hy⟩
theorem dv.up (hs:dv top S) {h:Int} {o o':OM} (hp:bg S h=some o) (ho:sF top o') (h1:o'.ou=o.ou) (h2:o'.cj=o.cj):dv top (cF S h o'):=by
 refine⟨hs.topB.up hp ho,λx y hy cp=> ?_,λx y hy i hi=> ?_,λx y hy=> ?_⟩
 .rw[nS hs.ok hp] at hy;have key:∀y0,bg S x=some y0->y0.ou=y.ou->∃w,bg (cF S h o') y.ou=some w/\w.ou=0/\x∈w.cj:=by
   intro y0 eT he;obtain⟨w,me,rD,C7⟩:=hs.out x y0 eT (by rw[he];exact cp);rw[he] at me;rw[nS hs.ok hp];by_cases e:y.ou=h
   .rw[if_pos e];rw[e,hp] at me;cases me;exact⟨o',rfl,by rw[h1,rD],by rw[h2];exact C7⟩
   .rw[if_neg e];exact⟨w,me,rD,C7⟩
  split at hy
  .rename_i e;cases hy;subst e;exact key o hp h1.symm
  .exact key y hy rfl
 .rw[nS hs.ok hp] at hy;have key:∀y0,bg S x=some y0->i∈y0.cj->∃w,bg (cF S h o') i=some w/\w.ou=x:=by
   intro y0 eT CF;obtain⟨w,me,rD⟩:=hs.cj x y0 eT i CF;rw[nS hs.ok hp];by_cases e:i=h
   .rw[if_pos e];rw[e,hp] at me;cases me;exact⟨o',rfl,by rw[h1,rD]⟩
   .rw[if_neg e];exact⟨w,me,rD⟩
  split at hy
  .rename_i e;cases hy;subst e;exact key o hp (by rw[<-h2];exact hi)
  .exact key y hy hi
 .rw[nS hs.ok hp] at hy;split at hy
  .cases hy;rw[h2];exact hs.nd h o hp
  .exact hs.nd x y hy
theorem pB.rm (hs:pB top S) {h:Int} {o:OM} (hp:bg S h=some o):pB top (gz z0 S h):=
 ⟨hs.ok.rm h,by rw[P0 hs.ok hp];exact hs.aR,hs.tp,λx y hy=>by
  rw[yU hs.ok hp] at hy;split at hy
  .cases hy
  .exact hs.fN x y hy⟩
theorem Gb:∀(l:aJ) {S:HS},pB top S->l.Nodup->(∀h∈l,∃o,bg S h=some o)-> pB top (mb S l)/\(mb S l).bn+l.length=S.bn/\(mb S l).aR=S.aR/\∀h',bg (mb S l) h'=if h'∈l then none else bg S h':=by
 intro l;induction l with
 |nil=>intro S hs _ _;exact⟨hs,rfl,rfl,λh'=>by simp[mb]⟩
 |cons h l ih=>
  intro S hs hn hl;rw[vq] at hn;obtain⟨o,hp⟩:=hl h (.head _);have Qh:∀x∈l,∃o,bg (gz z0 S h) x=some o:=λx hx=>by obtain⟨o',cG⟩:=hl x (.tail _ hx);refine⟨o',?_⟩;rw[yU hs.ok hp,if_neg (show¬x=h from λe=>hn.1 (e▸hx))];exact cG
  obtain⟨h1,h2,h3,h4⟩:=ih (hs.rm hp) hn.2 Qh;have h5:=adS (z:=z0) hs.ok hp;refine⟨h1,?_,h3.trans (P0 hs.ok hp),λh'=> ?_⟩
  .show(mb (gz z0 S h) l).bn+(l.length+1)=_;omega
  .show bg (mb (gz z0 S h) l) h'=_;rw[h4,yU hs.ok hp];by_cases e:h'=h
   .simp[e]
   .simp[e]
theorem dv.Gc (hs:dv top S) {h:Int} {o:OM} (hp:bg S h=some o) (h0:o.ou=0):(h::o.cj).Nodup/\∀x∈h::o.cj,∃o,bg S x=some o:=by
 refine⟨vq.2 ⟨λhm=> ?_,hs.nd h o hp⟩,λx hx=> ?_⟩
 .obtain⟨x,hx,e⟩:=hs.cj h o hp h hm;rw[hp] at hx;cases hx;exact AY hs.ok hp (by omega)
 .rcases pa.1 hx with rfl|hx
  .exact⟨o,hp⟩
  .obtain⟨y,hy,_⟩:=hs.cj h o hp x hx;exact⟨y,hy⟩
theorem dv.gone (hs:dv top S) {h:Int} {o:OM} (hp:bg S h=some o) (h0:o.ou=0):dv top (mb S (h::o.cj)):=by
 obtain⟨hn,hl⟩:=hs.Gc hp h0;obtain⟨h1,_,_,h4⟩:=Gb _ hs.topB hn hl;have alive:∀x y,bg (mb S (h::o.cj)) x=some y->x∉h::o.cj/\bg S x=some y:=by
  intro x y hy;rw[h4] at hy;split at hy
  .cases hy
  .rename_i hx;exact⟨hx,hy⟩
 refine⟨h1,λx y hy cp=> ?_,λx y hy i hi=> ?_,λx y hy=>hs.nd x y (alive x y hy).2⟩
 .obtain⟨hx,hy⟩:=alive x y hy;obtain⟨w,me,rD,C7⟩:=hs.out x y hy cp;refine⟨w,?_,rD,C7⟩;rw[h4,if_neg]
  .exact me
  .intro hm;rcases pa.1 hm with e|hm
   .rw[e,hp] at me;cases me;exact hx (List.mem_cons_of_mem _ C7)
   .obtain⟨v,uO,z8⟩:=hs.cj h o hp _ hm;rw[me] at uO;cases uO;exact AY hs.ok hp (by omega)
 .obtain⟨hx,hy⟩:=alive x y hy;obtain⟨w,me,rD⟩:=hs.cj x y hy i hi;refine⟨w,?_,rD⟩;rw[h4,if_neg]
  .exact me
  .intro hm;rcases pa.1 hm with e|hm
   .rw[e,hp] at me;cases me;exact AY hs.ok hy (by omega)
   .obtain⟨v,uO,z8⟩:=hs.cj h o hp _ hm;rw[me] at uO;cases uO;exact hx (by rw[<-rD,z8];exact .head _)
theorem nm.gone (hs:dv top S) {h:Int} {wt:aJ} (hw:nm S (h::wt)) {o:OM} (hp:bg S h=some o):o.ou=0/\nm (mb S (h::o.cj)) wt:=by
 obtain⟨o',cG,h0,hc⟩:=hw.all h (.head _);rw[hp] at cG;cases cG;have fm:=hw.nd;rw[vq] at fm;obtain⟨hn,hl⟩:=hs.Gc hp h0;obtain⟨h1,_,_,h4⟩:=Gb _ hs.topB hn hl;refine⟨h0,fm.2,λx hx=> ?_⟩;obtain⟨y,hy,eT,Qi⟩:=hw.all x (.tail _ hx);refine⟨y,?_,eT,Qi⟩;rw[h4,if_neg]
 .exact hy
 .intro hm;rcases pa.1 hm with e|hm
  .exact fm.1 (e▸hx)
  .obtain⟨v,uO,z8⟩:=hs.cj h o hp _ hm;rw[hy] at uO;cases uO;exact AY hs.ok hp (by omega)
theorem ad1 (S:HS) (wt fo:aJ) (x:Int×Int) (hs:dv top S): (x.1=1/\∃w o,whole S x.2=some w/\bg S w=some o/\o.ou=0/\0<o.cn/\fR S wt fo x=(cF S w {o with cn:=o.cn- 1},if o.cn=1 then wt++[w] else wt,fo))\/ (x.1=1/\(whole S x.2=none\/∃w o,whole S x.2=some w/\bg S w=some o/\o.cn=0)/\fR S wt fo x=(S,wt,fo))\/ (x.1=2/\fR S wt fo x=(S,wt,fo++[x.2]))\/(x.1≠1/\x.1≠2/\fR S wt fo x=(S,wt,fo)):=by
 unfold fR;by_cases h1:x.1=1
 .rw[if_pos h1];cases hw:whole S x.2 with
  |none=>exact .inr (.inl ⟨h1,.inl rfl,rfl⟩)
  |some w=>
   obtain⟨o,hp,h0⟩:=hs.whole hw;by_cases hc:0<o.cn
   .exact .inl ⟨h1,w,o,rfl,hp,h0,hc,by simp only[hp];rw[if_pos hc]⟩
   .have:=(hs.fN w o hp).cn;exact .inr (.inl ⟨h1,.inr ⟨w,o,rfl,hp,by omega⟩,by simp only[hp];rw[if_neg hc]⟩)
 .rw[if_neg h1];by_cases h2:x.1=2
  .exact .inr (.inr (.inl ⟨h2,by rw[if_pos h2]⟩))
  .exact .inr (.inr (.inr ⟨h1,h2,by rw[if_neg h2]⟩))
theorem JX {wt fo:aJ} (x:Int×Int) (hs:dv top S) (hw:nm S wt): dv top (fR S wt fo x).1/\nm (fR S wt fo x).1 (fR S wt fo x).2.1/\(fR S wt fo x).1.bn=S.bn/\(fR S wt fo x).1.aR=S.aR/\(fR S wt fo x).2.1.length+(fR S wt fo x).2.2.length<=wt.length+fo.length+1:=by
 rcases ad1 S wt fo x hs with⟨h1,w,o,hww,hp,h0,hc,e⟩|⟨h1,_,e⟩|⟨h2,e⟩|⟨_,_,e⟩<;>rw[e]<;>dsimp only
 .have hr:=hs.fN w o hp;have ho:sF top {o with cn:=o.cn- 1}:=⟨by have:=hr.cn;dsimp only;omega,hr.ou,hr.va,hr.len,hr.ln⟩;refine⟨hs.up hp ho rfl rfl,?_,CX _ _ _,yV _ _ _,by split<;>simp<;>omega⟩;have C8:w∉wt:=λhm=>by obtain⟨o',cG,_,Qj⟩:=hw.all w hm;rw[hp] at cG;cases cG;omega
  have mP:∀h∈wt,∃o',bg (cF S w {o with cn:=o.cn- 1}) h=some o'/\o'.ou=0/\o'.cn=0:=λh hh=>by obtain⟨o',cG,h2⟩:=hw.all h hh;refine⟨o',?_,h2⟩;rw[nS hs.ok hp,if_neg (show¬h=w from λe=>C8 (e▸hh))];exact cG
  split
  .rename_i h1c;refine⟨sb.2 ⟨hw.nd,by simp,λa ha b hb e=> ?_⟩,λh hh=> ?_⟩
   .rw[mL] at hb;exact C8 (hb▸e▸ha)
   .rcases fj.1 hh with hh|hh
    .exact mP h hh
    .rw[mL] at hh;subst hh;exact⟨{o with cn:=o.cn- 1},by rw[nS hs.ok hp,if_pos rfl],h0,by dsimp only;omega⟩
  .exact⟨hw.nd,mP⟩
 .exact⟨hs,hw,rfl,rfl,by omega⟩
 .exact⟨hs,hw,rfl,rfl,by simp;omega⟩
 .exact⟨hs,hw,rfl,rfl,by omega⟩
theorem Qk:∀(l:List (Int×Int)) {S:HS} {wt fo:aJ},dv top S->nm S wt-> dv top (gT (S,wt,fo) l).1/\nm (gT (S,wt,fo) l).1 (gT (S,wt,fo) l).2.1/\(gT (S,wt,fo) l).1.bn=S.bn/\(gT (S,wt,fo) l).1.aR=S.aR/\(gT (S,wt,fo) l).2.1.length+(gT (S,wt,fo) l).2.2.length<=wt.length+fo.length+l.length:=by
 intro l;induction l with
 |nil=>intro S wt fo hs hw;exact⟨hs,hw,rfl,rfl,by simp[gT]⟩
 |cons x l ih=>intro S wt fo hs hw;obtain⟨h1,h2,h3,h4,h5⟩:=JX (fo:=fo) x hs hw;obtain⟨g1,g2,g3,g4,g5⟩:=ih (fo:=(fR S wt fo x).2.2) h1 h2;have e:gT (S,wt,fo) (x::l)=gT ((fR S wt fo x).1,(fR S wt fo x).2.1,(fR S wt fo x).2.2) l:=rfl;rw[e];exact⟨g1,g2,g3.trans h3,g4.trans h4,by rw[iB];omega⟩
end
end Go.Proofs.YtjhnnnfnkjighaaGreatDoor
