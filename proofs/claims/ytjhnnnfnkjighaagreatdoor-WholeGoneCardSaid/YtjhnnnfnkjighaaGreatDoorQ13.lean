/- Whole: a part of the proof. No conditions. -/
import Derived.Test.YtjhnnnfnkjighaaGreatDoorQ12
set_option linter.unusedVariables false
set_option linter.unusedSimpArgs false
set_option maxRecDepth 100000
namespace Go.Proofs.YtjhnnnfnkjighaaGreatDoor
open Go.Sp Go.RowKit
def mf (slots:Nat) (outer:Int):OM:=⟨1,outer,0,List.replicate slots (0,0),[]⟩
def qA (S:HS) (slots outer:Int):HS×Int×Int:=
 if slots<0\/8<slots then(S,0,1) else
 if outer=0 then put S (mf slots.toNat 0) else
 match bg S outer with
 |none=>(S,0,2)
 |some o=>if o.ou≠0 then(S,0,1) else
  if(put S (mf slots.toNat outer)).2.2=0 then(cF (put S (mf slots.toNat outer)).1 outer {o with cj:=o.cj++[(put S (mf slots.toNat outer)).2.1]},(put S (mf slots.toNat outer)).2.1,0) else(S,0,3)
section
variable {top:Int} {S:HS}
theorem JY (ht:1<=top) {slots:Nat} {outer:Int} (h8:slots<=8) (h0:0<=outer/\outer<=18446744073709551615):sF top (mf slots outer):=⟨(by show(0:Int)<=1/\(1:Int)<=top;omega),h0,(show(-9223372036854775808:Int)<=0/\(0:Int)<=9223372036854775807 by decide),by simpa[mf] using h8,λx hx=>by have hx:x=(0,0):=List.eq_of_mem_replicate hx;subst hx;exact⟨(show(-9223372036854775808:Int)<=0/\(0:Int)<=9223372036854775807 by decide),(show(0:Int)<=0/\(0:Int)<=18446744073709551615 by decide)⟩⟩
theorem pB.put (hs:pB top S) {o:OM} (ho:sF top o) (he:(put S o).2.2=0):pB top (put S o).1:=
 ⟨hs.ok.put o,by rw[JH hs.ok];exact hs.aR,hs.tp,λx y hy=>by
  rw[qx hs.ok he] at hy;split at hy
  .cases hy;exact ho
  .exact hs.fN x y hy⟩
theorem dv.ad3 (hs:dv top S) {o:OM} (ho:sF top o) (h0:o.ou=0) (hi:o.cj=[]) (he:(put S o).2.2=0):dv top (put S o).1:=by
 have cv:=JO hs.ok he;refine⟨hs.topB.put ho he,λx y hy cp=> ?_,λx y hy i pC=> ?_,λx y hy=> ?_⟩
 .rw[qx hs.ok he] at hy;split at hy
  .cases hy;exact absurd h0 cp
  .obtain⟨v,h1,h2,h3⟩:=hs.out x y hy cp;refine⟨v,?_,h2,h3⟩;rw[qx hs.ok he,if_neg]
   .exact h1
   .intro e;rw[e,cv] at h1;cases h1
 .rw[qx hs.ok he] at hy;split at hy
  .cases hy;rw[hi] at pC;cases pC
  .obtain⟨v,h1,h2⟩:=hs.cj x y hy i pC;refine⟨v,?_,h2⟩;rw[qx hs.ok he,if_neg]
   .exact h1
   .intro e;rw[e,cv] at h1;cases h1
 .rw[qx hs.ok he] at hy;split at hy
  .cases hy;rw[hi];exact List.nodup_nil
  .exact hs.nd x y hy
theorem dv.ad4 (hs:dv top S) {w:Int} {o n:OM} (hp:bg S w=some o) (ho:o.ou=0) (hn:sF top n) (C8:n.ou=w) (hi:n.cj=[]) (he:(put S n).2.2=0):dv top (cF (put S n).1 w {o with cj:=o.cj++[(put S n).2.1]}):=by
 have cv:=JO hs.ok he;have hb:=hs.topB.put hn he;obtain⟨h,hh⟩:∃h,h=(put S n).2.1:=⟨_,rfl⟩;rw[<-hh] at cv ⊢;have Ql:w≠h:=λe=>by rw[e,cv] at hp;cases hp
 have rE:bg (put S n).1 w=some o:=by rw[qx hs.ok he,<-hh,if_neg Ql];exact hp
 have tG:=hs.fN w o hp;have sj:sF top {o with cj:=o.cj++[h]}:=⟨tG.cn,tG.ou,tG.va,tG.len,tG.ln⟩;have get:∀x,bg (cF (put S n).1 w {o with cj:=o.cj++[h]}) x=if x=w then some {o with cj:=o.cj++[h]} else if x=h then some n else bg S x:=λx=>by rw[nS hb.ok rE,qx hs.ok he,<-hh]
 have hw0:=AY hs.ok hp;refine⟨hb.up rE sj,λx y hy cp=> ?_,λx y hy i pC=> ?_,λx y hy=> ?_⟩
 .rw[get] at hy;split at hy
  .cases hy;exact absurd ho cp
  .split at hy
   .rename_i hxh;cases hy;refine⟨{o with cj:=o.cj++[h]},by rw[get,C8,if_pos rfl],ho,?_⟩;show x∈o.cj++[h];rw[hxh];simp
   .obtain⟨v,h1,h2,h3⟩:=hs.out x y hy cp;by_cases e:y.ou=w
    .rw[e,hp] at h1;cases h1;exact⟨{o with cj:=o.cj++[h]},by rw[get,e,if_pos rfl],ho,fj.2 (.inl h3)⟩
    .refine⟨v,?_,h2,h3⟩;rw[get,if_neg e,if_neg]
     .exact h1
     .intro e2;rw[e2,cv] at h1;cases h1
 .rw[get] at hy;split at hy
  .rename_i C9;cases hy;have pC:i∈o.cj++[h]:=pC;rcases fj.1 pC with pC|pC
   .obtain⟨v,h1,h2⟩:=hs.cj w o hp i pC;refine⟨v,?_,by rw[C9];exact h2⟩;rw[get,if_neg,if_neg]
    .exact h1
    .intro e2;rw[e2,cv] at h1;cases h1
    .intro e;rw[e,hp] at h1;cases h1;exact hw0 (by omega)
   .rw[mL] at pC;subst pC;refine⟨n,?_,by rw[C9];exact C8⟩;rw[get,if_neg (Ne.symm Ql),if_pos rfl]
  .rename_i C9;split at hy
   .cases hy;rw[hi] at pC;cases pC
   .obtain⟨v,h1,h2⟩:=hs.cj x y hy i pC;refine⟨v,?_,h2⟩;rw[get,if_neg,if_neg]
    .exact h1
    .intro e2;rw[e2,cv] at h1;cases h1
    .intro e;rw[e,hp] at h1;cases h1;exact AY hs.ok hy (by omega)
 .rw[get] at hy;split at hy
  .cases hy;refine sb.2 ⟨hs.nd w o hp,by simp,λa ha b hb e=> ?_⟩;rw[mL] at hb;obtain⟨v,h1,_⟩:=hs.cj w o hp a ha;rw[e,hb,cv] at h1;cases h1
  .split at hy
   .cases hy;rw[hi];exact List.nodup_nil
   .exact hs.nd x y hy
theorem ad7 (hs:dv top S) {slots outer:Int} (h0:0<=outer/\outer<=18446744073709551615):dv top (qA S slots outer).1/\(qA S slots outer).1.aR=S.aR:=by
 unfold qA;split
 .exact⟨hs,rfl⟩
 .rename_i JZ;split
  .rename_i hz;by_cases he:(put S (mf slots.toNat 0)).2.2=0
   .exact⟨hs.ad3 (JY hs.tp.1 (by omega) (by decide)) rfl rfl he,JH hs.ok⟩
   .rw[ue hs.ok he];exact⟨hs,rfl⟩
  .split
   .exact⟨hs,rfl⟩
   .rename_i o hp;split
    .exact⟨hs,rfl⟩
    .rename_i ho;split
     .rename_i he;exact⟨hs.ad4 hp (by simpa using ho) (JY hs.tp.1 (by omega) h0) rfl rfl he,by rw[yV];exact JH hs.ok⟩
     .exact⟨hs,rfl⟩
end
abbrev yX:=Int×HS×aJ×aJ
def yY (S:HS) (h:Int):yX:=match bg S h with|none=>(2,S,[],[])|some _=>(0,fR S [] [] (1,h))
def yZ (x:Int×Int):Bool:=(decide (x.1=0)&&decide (x.2=0))||decide (x.1=1)||decide (x.1=2)
def ke (top:Int) (S:HS) (h:Int):HS×Int×Int:=
 match whole S h with
 |none=>(S,0,2)
 |some x=>match bg S x with
  |none=>(S,0,2)
  |some o=>if o.cn=top then(S,0,4) else(cF S x {o with cn:=o.cn+1},o.cn+1,0)
def pD (S:HS) (h:Int) (slot:Nat) (x:Int×Int):HS×aJ×aJ:=
 match bg S h with
 |none=>(S,[],[])
 |some o=>fR (cF S h {o with ln:=o.ln.set slot x}) [] [] (o.ln.getD slot (0,0))
def y4 (top:Int) (S:HS) (h slot:Int) (x:Int×Int):yX:=
 match bg S h with
 |none=>(2,S,[],[])
 |some o=>if slot<0\/(o.ln.length:Int)<=slot\/yZ x=false then(1,S,[],[]) else
  if x.1=1 then(if(ke top S x.2).2.2≠0 then((ke top S x.2).2.2,S,[],[]) else(0,pD (ke top S x.2).1 h slot.toNat x)) else(0,pD S h slot.toNat x)
def iT (S:HS) (l:aJ):HS:=l.foldl (λS h=>match bg S h with|some o=>cF S h {o with cn:=0}|none=>S) S
def xz (S:HS) (l:aJ):yX:=
 if l.any (λh=>(bg S h).isNone)=true then(2,S,[],[]) else
 if¬l.Nodup\/∃h∈l,∃o,bg S h=some o/\o.ou≠0 then(1,S,[],[]) else(0,iT S l,l,[])
def rF (S:HS) (h n:Int):HS×Int:=match bg S h with|none=>(S,2)|some o=>(cF S h {o with va:=n},0)
section
variable {top:Int} {S:HS}
theorem J0 {h:Int} (hs:dv top S):dv top (ke top S h).1/\(ke top S h).1.bn=S.bn/\(ke top S h).1.aR=S.aR:=by
 unfold ke;split
 .exact⟨hs,rfl,rfl⟩
 .split
  .exact⟨hs,rfl,rfl⟩
  .rename_i o hp;split
   .exact⟨hs,rfl,rfl⟩
   .have hr:=hs.fN _ o hp;have:=hs.tp;exact⟨hs.up hp ⟨by have:=hr.cn;dsimp only;omega,hr.ou,hr.va,hr.len,hr.ln⟩ rfl rfl,CX _ _ _,yV _ _ _⟩
theorem ad8 {h x:Int} {o:OM} (hs:bx S) (hp:bg S x=some o):∃o',bg (ke top S h).1 x=some o'/\o'.ln=o.ln/\o'.ou=o.ou/\o'.cj=o.cj/\o'.va=o.va:=by
 unfold ke;split
 .exact⟨o,hp,rfl,rfl,rfl,rfl⟩
 .split
  .exact⟨o,hp,rfl,rfl,rfl,rfl⟩
  .rename_i y hy;split
   .exact⟨o,hp,rfl,rfl,rfl,rfl⟩
   .rw[nS hs hy];split
    .rename_i e;rw[<-e,hp] at hy;cases hy;exact⟨_,rfl,rfl,rfl,rfl,rfl⟩
    .exact⟨o,hp,rfl,rfl,rfl,rfl⟩
theorem dv.slot (hs:dv top S) {h:Int} {o:OM} (hp:bg S h=some o) {i:Nat} {x:Int×Int} (hx:AX x):dv top (cF S h {o with ln:=o.ln.set i x}):=by have hr:=hs.fN h o hp;exact hs.up hp ⟨hr.cn,hr.ou,hr.va,by simpa using hr.len,λy hy=>(pS hy).elim (hr.ln y) (λe=>e▸hx)⟩ rfl rfl
theorem ad9 {h:Int} {i:Nat} {x:Int×Int} (hs:dv top S) (hx:AX x): dv top (pD S h i x).1/\nm (pD S h i x).1 (pD S h i x).2.1/\(pD S h i x).1.bn=S.bn/\(pD S h i x).1.aR=S.aR/\(pD S h i x).2.1.length+(pD S h i x).2.2.length<=1:=by
 unfold pD;split
 .exact⟨hs,nm.nil,rfl,rfl,by simp⟩
 .rename_i o hp;obtain⟨h1,h2,h3,h4,h5⟩:=JX (fo:=[]) (o.ln.getD i (0,0)) (hs.slot hp (i:=i) hx) nm.nil;exact⟨h1,h2,h3.trans (CX _ _ _),h4.trans (yV _ _ _),by simpa using h5⟩
theorem aea (S:HS) (l:aJ) (h:Int):iT S (l++[h])=match bg (iT S l) h with|some o=>cF (iT S l) h {o with cn:=0}|none=>iT S l:=by simp[iT]
theorem Qm:∀(l:aJ) {S:HS},dv top S->dv top (iT S l)/\(iT S l).bn=S.bn/\(iT S l).aR=S.aR/\∀h,bg (iT S l) h=(bg S h).map λo=>if h∈l then{o with cn:=0} else o:=by
 intro l;induction l with
 |nil=>intro S hs;exact⟨hs,rfl,rfl,λh=>by cases hp:bg S h<;>simp[iT,hp]⟩
 |cons x l ih=>
  intro S hs;cases hp:bg S x with
  |none=>
   have e:iT S (x::l)=iT S l:=by simp[iT,hp]
   obtain⟨h1,h2,h3,h4⟩:=ih hs;rw[e];refine⟨h1,h2,h3,λh=> ?_⟩;rw[h4];cases hq:bg S h with
   |none=>rfl
   |some o=>
    have:h≠x:=λe=>by rw[e,hp] at hq;cases hq
    simp[this]
  |some o=>
   have e:iT S (x::l)=iT (cF S x {o with cn:=0}) l:=by simp[iT,hp]
   have hr:=hs.fN x o hp;have htp:=hs.tp;have mC:=hs.up hp (o':={o with cn:=0}) ⟨by dsimp only;omega,hr.ou,hr.va,hr.len,hr.ln⟩ rfl rfl;obtain⟨h1,h2,h3,h4⟩:=ih mC;rw[e];refine⟨h1,h2.trans (CX _ _ _),h3.trans (yV _ _ _),λh=> ?_⟩;rw[h4,nS hs.ok hp];by_cases hx:h=x
   .subst hx;rw[if_pos rfl,hp];simp
   .rw[if_neg hx];cases bg S h with
    |none=>rfl
    |some y=>simp[hx]
theorem aec {l:aJ} (hs:dv top S) (hn:l.Nodup) (hl:∀h∈l,∃o,bg S h=some o/\o.ou=0):dv top (iT S l)/\nm (iT S l) l/\(iT S l).bn=S.bn/\(iT S l).aR=S.aR:=by obtain⟨h1,h2,h3,h4⟩:=Qm l hs;refine⟨h1,⟨hn,λh hh=> ?_⟩,h2,h3⟩;obtain⟨o,hp,h0⟩:=hl h hh;exact⟨{o with cn:=0},by rw[h4,hp];simp[hh],h0,rfl⟩
theorem aed (hs:dv top S) {h n:Int} (hn: -9223372036854775808<=n/\n<=9223372036854775807):dv top (rF S h n).1/\(rF S h n).1.bn=S.bn/\(rF S h n).1.aR=S.aR:=by
 unfold rF;split
 .exact⟨hs,rfl,rfl⟩
 .rename_i o hp;have hr:=hs.fN h o hp;exact⟨hs.up hp ⟨hr.cn,hr.ou,hn,hr.len,hr.ln⟩ rfl rfl,CX _ _ _,yV _ _ _⟩
end
def ia (M:NM) (i:Int):NM×PK×Int:=match M.row[(oP i M.row.length).toNat]? with
 |some x=>({M with row:=M.row.eraseIdx (oP i M.row.length).toNat},x,0)
 |none=>(M,dX,12)
def nX (x:PK):Mark:=((x.fr,x.to),x.sq)
def gM (M:NM) (i:Int):NM×PK×Bool×Int:=
 if(ia M i).2.2=0 then({(ia M i).1 with jv:=fg M.jv (nX (ia M i).2.1) (some ())},(ia M i).2.1,!(M.jv (nX (ia M i).2.1)).isSome,0) else((ia M i).1,(ia M i).2.1,false,(ia M i).2.2)
theorem Qn:jb dX:=⟨⟨by decide,by decide⟩,⟨by decide,by decide⟩,⟨by decide,by decide⟩,⟨by decide,by decide⟩,⟨by decide,by decide⟩,rfl,by decide,⟨by decide,by decide⟩,⟨by decide,by decide⟩,⟨by decide,by decide⟩⟩
theorem Gd {M:NM} {i:Int} (h:M.row=[]):ia M i=(M,dX,12):=by simp[ia,h]
theorem Ge {M:NM} {i:Int} (h:M.row≠[]):∃x,M.row[(oP i M.row.length).toNat]?=some x/\ia M i=({M with row:=M.row.eraseIdx (oP i M.row.length).toNat},x,0):=by
 have hl:0<M.row.length:=List.length_pos_iff.2 h;have hr:=JA (i:=i) hl;have aQ:(oP i M.row.length).toNat<M.row.length:=by omega
 refine⟨_,gm aQ,?_⟩;rw[ia,gm aQ]
section
variable {O w:ao} {F:HP} {b:Nat} {M:NM} {n:Int}
theorem uP {k:Nat} {y:PK} {q:av} {m d:Nat} {cs:aM} {t:TypeId} {K:ao->Prop} (h:V O (ab k cs t*F) w) (hc:cs.size=25) (hy:y.ip.length=16) (hk:∀w',V O (ab k (bC y (af q m d)) t*F) w'->K w'):aS au (aD k) 25 (bC y (af q m d)) w K:=bL h hc (jc hy) yJ hk
theorem Qo {i:Int} (h:V O (gw b M*F) w) (hM:l0 M n): ae 86 #[al b,aa i] w λv w'=>∃q m d G,v=ak #[an (bC (ia M i).2.1 (af q m d)),aa (ia M i).2.2]/\m<=1/\bd G 36 q m ((ia M i).2.1.rs.flatMap cS)/\V O (G*(gw b (ia M i).1*F)) w':=by
 apply Yy;have eB:=hM.len;have AZ:=hM.m1;refine aG h λk1 w1 h1=> ?_;have h1:V O (ab k1 (bC dX aP) 150*(gw b M*F)) w1:=h1;refine ay (adg (i:=i) (h1.p1) (by omega)) ?_;rintro _ w2 ⟨rfl,⟨he,rfl⟩|⟨cp,rfl⟩⟩
 .rw[Gd he];refine⟨_,_,rfl,aW rfl<|uP (y:=dX) (q:=none) (m:=0) (d:=0) h1 (jc rfl) rfl λw3 h2=>mw h2 rfl ⟨none,0,0,cW,rfl,by decide,λ_ _ _=>Rd.nil _ _ _,h2.right.cQ⟩⟩
 .obtain⟨x,hx,mN⟩:=Ge (i:=i) cp;rw[mN];have hl:0<M.row.length:=List.length_pos_iff.2 cp;have hr:=JA (i:=i) hl;obtain⟨k,hk⟩:∃k:Nat,k=(oP i M.row.length).toNat:=⟨_,rfl⟩;have hkI:oP i M.row.length=(k:Int):=by omega
  rw[<-hk] at hx ⊢;rw[hkI];have vV:=(ct.1 hx).1;obtain⟨ST,bj,p,c,m1,m2,gJ,h2⟩:=gw.aK (h1.p1);have tu:=gJ.len;obtain⟨q,hq⟩:∃q,bj[k]?=some q:=⟨_,gm (by omega)⟩;obtain⟨a1,a2,a3⟩:=gJ.all k q x hq hx;obtain⟨xA,xr⟩:=hM.row x (dF hx);have xs:=ade xA xr;refine⟨_,_,rfl,aw rfl<|aq<|aN (aB h2 (i:=1) rfl)<|dC AO h2.right.left (by decide) (by omega) (by rw[cu];exact hq) λg hg=>aN (p:=q.p) (l:=q.l) (c:=q.c) (by rw[cu];have:=cU AO h2.right.left hg hq (j:=0) (by decide) rfl;rwa[Sp.add_zero] at this) ?_⟩;refine ay (acM (bs:=fG x) (h2.p4) (bd.left a3) a2 (by omega) (O4 xA xr)) ?_;rintro _ w4 ⟨y,q2,m,d,e,G,rfl,yin,hm,hG,h3,⟨rfl,_,aef⟩|⟨_,_,ml⟩⟩;case inr=>exact absurd ⟨xA,xr,rfl⟩ (ml x)
  have uQ:x=y:=aef x ⟨xA,xr,rfl⟩;subst uQ;refine⟨_,_,rfl,aG h3 λy5 w5 h4=>uP h4 rfl xA.ip λw6 h5=> ?_⟩;have h6:V O (ab b (nA M.aR p bj.length c m1 m2) 95*(aE 192 1 lD p bj.length c bj*(G*(ST*(ab y5 (bC x (af q2 m d)) 150*(tv m1 M.iG*(sx m2 M.jv*(ab k1 (bC dX aP) 150*F)))))))) w6:=h5.aF (by show ab y5 (bC x (af q2 m d)) 150*_=_;ac_rfl);refine aq<|aN (aB h6 (i:=1) rfl)<|aY (by omega) (by omega)<|ay (ada (i:=k) (h6.p1) (by omega) (by omega)) ?_;rintro _ w7 ⟨rfl,h7⟩;refine iE<|aq<|bD (i:=1) (h7.p1) (by simp[nA]) λw8 h8=> ?_;have h8:V O (ab b (nA M.aR p (bj.length- 1) c m1 m2) 95*(aE 192 1 lD p (bj.length- 1) c (bj.eraseIdx k)*(G*(ST*(ab y5 (bC x (af q2 m d)) 150*(tv m1 M.iG*(sx m2 M.jv*(ab k1 (bC dX aP) 150*F)))))))) w8:=h8;refine mw h8.right.right.right.right xA.ip<|uP (h8.p7) (jc rfl) xA.ip λw9 h9=>mw h9 xA.ip ⟨q2,m,d,G,rfl,hm,hG,?_⟩;have aV:=(h9.p4.p7.p7.p5.p5.p7.p6.g1).right;exact(gw.aI (M:={M with row:=M.row.eraseIdx k}) (gJ.erase (k:=k)) aV (by rw[EG,if_pos (by omega)])).aF (by ac_rfl)
theorem l0.J1 {i:Int} (hM:l0 M n):l0 (ia M i).1 n/\jb (ia M i).2.1:=by
 by_cases he:M.row=[]
 .rw[Gd he];exact⟨hM,Qn⟩
 .obtain⟨x,hx,mN⟩:=Ge (i:=i) he;rw[mN];refine⟨⟨hM.m0,hM.m1,?_,λy hy=>hM.row y (H7 hy),hM.iG⟩,(hM.row x (dF hx)).1⟩;have:=hM.len;have h2:=List.length_eraseIdx_le (l:=M.row) (i:=(oP i M.row.length).toNat);dsimp only;omega
theorem aeg {i:Int} (h:V O (gw b M*F) w) (hM:l0 M n): ae 88 #[al b,aa i] w λv w'=>∃q m d G,v=ak #[an (bC (gM M i).2.1 (af q m d)),aC (gM M i).2.2.1,aa (gM M i).2.2.2]/\m<=1/\bd G 36 q m ((gM M i).2.1.rs.flatMap cS)/\V O (G*(gw b (gM M i).1*F)) w':=by
 apply Yz;refine aG h λk1 w1 h1=> ?_;have h1:V O (ab k1 (bC dX aP) 150*(gw b M*F)) w1:=h1;obtain⟨A8,lF⟩:=hM.J1 (i:=i);have J2:(ia M i).1.jv=M.jv:=by
  by_cases he:M.row=[]
  .rw[Gd he]
  .obtain⟨x,hx,mN⟩:=Ge (i:=i) he;rw[mN]
 refine ay (Qo (i:=i) (h1.p1) hM) ?_;rw[gM];generalize ia M i=z at A8 lF J2;obtain⟨M2,y,e⟩:=z;dsimp only at A8 lF J2 ⊢;rintro _ w2 ⟨q,m,d,G,rfl,hm,hG,h2⟩;have h2:=h2.p1.p2;refine⟨_,_,rfl,uP h2 (jc rfl) lF.ip λw3 h3=>cy (λhe=> ?_) (λhe=> ?_)⟩
 .have he:e≠0:=by simpa using he
  rw[if_neg he];exact mw h3 lF.ip<|uP h3 (jc lF.ip) lF.ip λw4 h4=>mw h4 lF.ip ⟨q,m,d,G,rfl,hm,hG,h4.right.aF (by ac_rfl)⟩
 .have he:e=0:=by simpa using he
  rw[if_pos he];dsimp only;refine az (n:=y.fr) (aB h3 (i:=1) rfl)<|az (n:=y.to) (aB h3 (i:=2) rfl)<|az (n:=y.sq) (aB h3 (i:=3) rfl) ⟨rfl,aG h3 λlG w5 h4=>bL h4 rfl rfl (by simp[Value.oneCell']) λw6 h5=> ?_⟩;have h5:V O (gw b M2*(ab lG (pv (nX y)) 374*(ab k1 (bC y (af q m d)) 150*(G*F)))) w6.drew:=h5.drew.aF (by show ab lG (pv (nX y)) 374*_=_;ac_rfl);obtain⟨ST,bj,p,c,m1,m2,gJ,h6⟩:=gw.aK h5;rw[J2] at h6;have fin:∀{w:ao} {rG:Nat},V O (ab rG #[] 358*(ab b (nA M2.aR p bj.length c m1 m2) 95*(aE 192 1 lD p bj.length c bj*(tv m1 M2.iG*(sx m2 M.jv*(ST*(ab lG (pv (nX y)) 374*(ab k1 (bC y (af q m d)) 150*(G*F))))))))) w->nn (aU b) λa18=>iY (a18.add 3) w.drew λr19=>aA (aD lG) 3 w.drew λg20=>qU au 93 r19 (an g20) (an #[]) w.drew λw9=>aA (aD k1) 25 w9 λFQ=>aS au (aD k1) 25 FQ w9 λdn=>aA (aD k1) 25 dn λg22=>(λv w'=>∃q m d G,v=ak #[an (bC y (af q m d)),aC (!(M.jv (nX y)).isSome),aa 0]/\m<=1/\bd G 36 q m (y.rs.flatMap cS)/\V O (G*(gw b {M2 with jv:=fg M.jv (nX y) (some ())}*F)) w') (ak #[an g22,aC (!(M.jv (nX y)).isSome),aa 0]) dn:=by intro w rG h;have h:=h.drew;refine aq<|kK (aB h.right (i:=3) rfl)<|bz (h.right.right.right.right.right.right) rfl<|xk (kf:=kM) (vf:=vN) (S:=λ_=>True) (r:=m2) (f:=M.jv) (v:=()) Jx (x:=nX y) (h.p4) trivial λw9 h9=> ?_;have h9:V O (ab k1 (bC y (af q m d)) 150*(ab rG #[] 358*(ab b (nA M2.aR p bj.length c m1 m2) 95*(aE 192 1 lD p bj.length c bj*(tv m1 M2.iG*(sx m2 (fg M.jv (nX y) (some ()))*(ST*(ab lG (pv (nX y)) 374*(G*F))))))))) w9:=V.aF h9 (by show sx m2 (fg M.jv (nX y) (some ()))*_=_;ac_rfl);refine mw h9 lF.ip<|uP h9 (jc lF.ip) lF.ip λdn aV=>mw aV lF.ip ⟨q,m,d,G,rfl,hm,hG,?_⟩;have bu:=(aV.p7.p2.p2.g2).right;exact(gw.aI (M:={M2 with jv:=fg M.jv (nX y) (some ())}) gJ bu rfl).p1
  have Qp:(M.jv (nX y)).elim (an #[]) vN=an #[]:=by cases M.jv (nX y)<;>rfl
  refine aq<|kK (aB h6 (i:=3) rfl)<|bz (h6.right.right.right.right.right) rfl ⟨JB (kf:=kM) (vf:=vN) (S:=λ_=>True) (r:=m2) (f:=M.jv) Jx (x:=nX y) h6.right.right.right trivial (show(zeroValue 358).run au w6.drew=.ok (an #[]) w6.drew by kernel_rfl) ?_,aG h6 λsu dP h7=>JB (kf:=kM) (vf:=vN) (S:=λ_=>True) (r:=m2) (f:=M.jv) Jx (x:=nX y) h7.right.right.right.right trivial (show(zeroValue 358).run au dP=.ok (an #[]) dP by kernel_rfl) ?_⟩
  .rw[Qp];exact⟨_,_,rfl,aG h6 λrG w7 h7=>bL h7 rfl rfl (by simp) λw8 h8=>fin h8⟩
  .rw[Qp];exact⟨_,_,rfl,bL h7 rfl rfl (by simp) λw8 h8=>fin h8⟩
end
abbrev LK:=Int×Int
structure kX where
 lk:LK
 bm:aJ
 cn:Int
structure cC where
 tg:Int
 bm:aJ
 cs:List (Int×Int)
 t1:Int
 t2:Int
structure np where
 ox:Int
 od:Int
 cn:Int
 dz:List OR
structure tH where
 x:OR
 hm:Int
structure ig where
 op:Int
 a:Int
 b:Int
deriving DecidableEq
structure pE where
 code:List ig
 arg:Int
 aj:Nat
 stack:aJ
structure eX where
 ob:Int
 md:Int
 mt:Int
 n:Int
 fr:Option pE
 arg:LK
 wt:Int
 rd:Bool
 rs:Int
 cd:Int
 bk:PK
 cl:Int
structure dr where
 pF:Bool
 fi:AS kX
 ca:AS cC
 dA:AS np
 bX:Int
 gU:List (Int×Int)
 ij:List PK
 th:Option eX
structure fz where
 cZ:aJ
 lH:List (List Nat)
 eU:aJ
 waits:List Nat
 eY:List Nat
 mU:Int
 aj:Nat
 lI:Option Nat
 eC:Nat
 da:List Nat
structure TM where
 kind:Int
 dR:Int
 pG:Int
 n:Int
 ed:Int
 code:Int
structure WS where
 bQ:List dr
 heap:HS
 eM:List (Int×Int)
 dG:AS (Int×OR)
 cD:NM
 sn:Nat
 ld:Bool
 c0:Int
 c2:Int
 cK:Int
 di:AS tH
 ft:Int
 run:Option fz
 jM:aJ
 told:List TM
instance (x:gv):Decidable (jV x):=decidable_of_iff ((0<=x.fl/\x.fl<=4294967295)/\(0<=x.rf/\x.rf<=4294967295)/\(0<=x.ox/\x.ox<=18446744073709551615)/\(0<=x.dy/\x.dy<=18446744073709551615)/\x.bs.length=32/\∀b∈x.bs,0<=b/\b<=255)
 ⟨λ⟨a,b,c,d,e,f⟩=>⟨a,b,c,d,e,f⟩,λ⟨a,b,c,d,e,f⟩=>⟨a,b,c,d,e,f⟩⟩
def Qq (fl rf ox od:Int) (rH bm:aJ):Option OR:=if h:jV ⟨fl,rf,ox,od,rH++bm⟩ then some ⟨_,h⟩ else none
def ik (x:OR):aJ:=x.1.bs.take 16
def jZ (x:OR):aJ:=x.1.bs.drop 16
def ch (S:WS) (aj:Int):Option dr:=if aj<0 then none else S.bQ[aj.toNat]?
def bV (S:WS) (aj:Int) (h:dr):WS:={S with bQ:=S.bQ.set aj.toNat h}
def pH (S:WS) (t:TM):Option WS:=if S.told.length<10000 then some {S with told:=S.told++[t]} else none
def vW (S:WS) (nY:Int) (up:Bool):Option WS:=
 if nY=0 then(if up then(if S.c0<1000000 then some {S with c0:=S.c0+1,ld:=true,cK:=0} else none) else(if 0<S.c0 then some {S with c0:=S.c0- 1,ld:=true,cK:=0} else none))
 else if nY=2 then(if up then(if S.c2<1000000 then some {S with c2:=S.c2+1,ld:=true,cK:=0} else none) else(if 0<S.c2 then some {S with c2:=S.c2- 1,ld:=true,cK:=0} else none))
 else none
def A9:Nat->HS->aJ->aJ->aJ->Option (HS×aJ×aJ)
 |_,S,[],gn,fo=>some (S,gn,fo)
 |0,_,_::_,_,_=>none
 |n+1,S,h::wt,gn,fo=>match bg S h with
  |none=>none
  |some o=>let q:=gT (mb S (h::o.cj),wt,fo) (o.ln++o.cj.flatMap (mc S));A9 n q.1 q.2.1 (gn++h::o.cj) q.2.2
def Da (x:cC):Bool:=(decide (0<(x.cs.map (·.2)).foldl (·+·) 0))||decide (0<x.t1)
def j1 (s:AS cC) (t:Int):Bool:=s.sp.any λy=>decide (y.st=1)&&(decide (y.x.tg=t)&&Da y.x)
def mD:cC:=⟨0,[],[],0,0⟩
def Qr (s:AS cC) (t:Int):AS cC:=(cq 0 s.sp).foldl (λs p=>if p.2.x.tg=t then(cI mD s (hd p.1 p.2.g)).1 else s) s
def y6 (S:WS) (h:Int):Option WS:=
 match S.eM.find? (λp=>p.1=h) with
 |none=>none
 |some k=>match ch S k.2 with
  |none=>none
  |some H=>(vW {S with eM:=S.eM.filter (λp=>p.1≠h)} 0 false).bind λS=>pH (bV S k.2 {H with ca:=Qr H.ca h}) ⟨5,h,0,0,0,0⟩
def Gf (S:WS) (gone ael:aJ):Option WS:=
 if ael=[] then gone.foldl (λS h=>S.bind λS=>y6 S h) (some S) else none
def Ba (S:WS) (r:yX):Option WS:=
 if r.1≠0 then some S else(A9 300 r.2.1 r.2.2.1 [] r.2.2.2).bind λq=>Gf {S with heap:=q.1} q.2.1 q.2.2
def J3 (x:PK):Bool:=decide ((-9223372036854775808<=x.kd/\x.kd<=9223372036854775807)/\(-9223372036854775808<=x.fr/\x.fr<=9223372036854775807)/\(-9223372036854775808<=x.to/\x.to<=9223372036854775807)/\(0<=x.sq/\x.sq<=18446744073709551615)/\(0<=x.cl/\x.cl<=18446744073709551615)/\x.ip.length=16/\(∀b∈x.ip,0<=b/\b<=255)/\(-9223372036854775808<=x.md/\x.md<=9223372036854775807)/\(-9223372036854775808<=x.n/\x.n<=9223372036854775807)/\(-9223372036854775808<=x.cd/\x.cd<=9223372036854775807))
def vX (l:aJ):Bool:=decide (l.length=16/\∀b∈l,0<=b/\b<=255)
def hB (h:Int):Bool:=decide (0<=h/\h<=18446744073709551615)
def oR (S:WS) (x:PK):Option (WS×Int):=if S.sn<9000/\J3 x=true then(let r:=sy S.cD x;some ({S with cD:=r.1,sn:=S.sn+1},r.2.2)) else none
def sG:np:=⟨0,0,0,[]⟩
def J4 (S:WS) (aj h:Int):Option WS:=
 (ch S aj).bind λH=>(bg H.dA h).bind λx=>
  if x.cn<1 then none else
  if x.cn=1 then match x.dz with
   |[y]=>(oR (bV S aj {H with dA:=(cI sG H.dA h).1}) ⟨4,aj,y.1.ox,0,0,ik y,0,y.1.rf,0,[]⟩).map (·.1)
   |_=>none
  else some (bV S aj {H with dA:=cF H.dA h {x with cn:=x.cn- 1}})
def xB (S:WS) (x:LK):Option (WS×Int):=if hB x.2=false then none else
 let S:={S with run:=none}
 if x.1=1 then(let r:=ke 1048576 S.heap x.2;some ({S with heap:=r.1},r.2.2))
 else if x.1=2 then none else some (S,0)
def J6 (aj h:Int):LK:=(2,aj*1152921504606846976+h%1152921504606846976)
def rI (S:WS) (x:LK):Option WS:=if hB x.2=false then none else
 let S:={S with run:=none}
 if x.1=1 then Ba S (yY S.heap x.2)
 else if x.1=2 then J4 S (x.2/ 1152921504606846976) (x.2%1152921504606846976) else some S
def ki (s:AS cC) (rH:aJ):Option (Int×cC):=(vL rH).bind λh=>(bg s h).map λx=>(h,x)
def jg (cs:List (Int×Int)) (k:Int):Int:=match cs.find? (λp=>p.1=k) with|some p=>p.2|none=>0
def sI (cs:List (Int×Int)) (k n:Int):Option (List (Int×Int)):=
 match cs with
 |[]=>some (if n=0 then [] else [(k,n)])
 |[p]=>if p.1=k then some (if n=0 then [] else [(k,n)]) else none
 |_=>none
def y7 (s:AS cC) (t:Int) (bm:aJ):Option (Int×cC):=((cq 0 s.sp).find? λp=>decide (p.2.x.tg=t)&&decide (p.2.x.bm=bm)).map λp=>(hd p.1 p.2.g,p.2.x)
def y8 (x:cC):Bool:=(decide (0<(x.cs.map (·.2)).foldl (·+·) 0))||(decide (0<x.t1)||decide (0<x.t2))
def lJ (s:AS cC) (h:Int) (x:cC):AS cC:=if y8 x then cF s h x else(cI mD s h).1
def y9 (fl rf:Int):Bool:=decide (fl<=2)&&((fl==0)==decide (rf>0))
def tI (s:AS cC) (t:Int) (bm:aJ):AS cC×Int×cC×Int:=match y7 s t bm with
 |some q=>(s,q.1,q.2,0)
 |none=>((put s ⟨t,bm,[],0,0⟩).1,(put s ⟨t,bm,[],0,0⟩).2.1,⟨t,bm,[],0,0⟩,(put s ⟨t,bm,[],0,0⟩).2.2)
def J7 (fl rf db:Int) (x:cC):Option cC:=
 if fl=0 then(if jg x.cs db+rf<1000000 then(sI x.cs db (jg x.cs db+rf)).map λcs=>{x with cs:=cs} else none)
 else if fl=1 then(if x.t1<1000000 then some {x with t1:=x.t1+1} else none) else if x.t2<1000000 then some {x with t2:=x.t2+1} else none
def Gg (s:AS cC) (ox t:Int) (bm:aJ) (fl rf db:Int):Option (AS cC×OR):=
 if y9 fl rf=false then none else if(tI s t bm).2.2.2≠0 then none else(J7 fl rf db (tI s t bm).2.2.1).bind λx'=>
 (Qq fl rf ox t (lA (tI s t bm).2.1) bm).map λo=>(cF (tI s t bm).1 (tI s t bm).2.1 x',o)
def Gh (H:dr) (k:Int):Option dr:=match H.gU with
 |[]=>some {H with gU:=[(k,H.bX)]}
 |[p]=>if p.1=k then some {H with gU:=[(k,H.bX)]} else none
 |_=>none
def Bb (S:WS) (from_ t:Int) (bm:aJ) (fl rf db:Int):Option (WS×OR):=if vX bm=false then none else
 (ch S from_).bind λH=>let held:=j1 H.ca t
 (if held=false/\fl≠2 then(xB S (1,t)).bind λr=>if r.2=0 then some r.1 else none else some S).bind λS=>
 (ch S from_).bind λH=>(Gg H.ca from_ t bm fl rf db).bind λr=>if held=false/\j1 r.1 t≠(fl !=2) then none else
 (if db<100 then Gh {H with ca:=r.1} db else some {H with ca:=r.1}).map λH=>(bV S from_ H,r.2)
def Bc (S:WS) (l:aJ):Option WS:=l.foldl (λS t=>S.bind λS=>rI S (1,t)) (some S)
def changed (S:WS) (from_ t:Int) (s':AS cC):Option WS:=
 (ch S from_).bind λH=>
 let S':=bV S from_ {H with ca:=s'}
 match j1 H.ca t,j1 s' t with
 |true,false=>Bc S' [t]
 |false,true=>none
 |_,_=>some S'
def release (S:WS) (ox:Int) (rH:aJ) (db n:Int):Option WS:=
 match ch S ox with
 |none=>none
 |some H=>match ki H.ca rH with
  |none=>some S
  |some (h,x)=>if jg x.cs db<n then changed S ox x.tg (lJ H.ca h x) else(sI x.cs db (jg x.cs db- n)).bind λcs=>changed S ox x.tg (lJ H.ca h {x with cs:=cs})
def Qs (S:WS) (ox:Int) (rH:aJ) (fl:Int):Option WS:=
 match ch S ox with
 |none=>none
 |some H=>match ki H.ca rH with
  |none=>some S
  |some (h,x)=>if fl=1 then(if x.t1=0 then none else changed S ox x.tg (lJ H.ca h {x with t1:=x.t1- 1})) else none
def Gj (S:WS) (x:OR):Option WS:=if x.1.fl=0 then release S x.1.ox (ik x) 100 x.1.rf else Qs S x.1.ox (ik x) x.1.fl
def J9:kX:=⟨(0,0),dW,0⟩
def Gk (S:WS) (aj:Int) (lk:LK) (bm:aJ):Option (WS×Int):=if vX bm=false then none else
 (ch S aj).bind λH=>let r:=put H.fi ⟨lk,bm,1⟩
  if r.2.2=0 then(pH (bV S aj {H with fi:=r.1}) ⟨1,r.2.1,0,0,0,0⟩).map λS=>(S,0) else none
def Be (S:WS) (aj:Int) (x:OR):Option (WS×Int):=
 (ch S aj).bind λH=>
  if 15<aj\/x.1.fl≠0\/y9 x.1.fl x.1.rf=false\/H.dA.sp.any (λy=>decide (y.st=1)&&(decide (y.x.ox=x.1.ox)&&decide (y.x.od=x.1.dy)))=true then none else
  let r:=put H.dA ⟨x.1.ox,x.1.dy,1,[x]⟩
  if r.2.2≠0 then none else Gk (bV S aj {H with dA:=r.1}) aj (J6 aj r.2.1) (jZ x)
def Ka (S:WS) (aj:Int) (x:OR):Option (WS×Int):=
 (ch S x.1.ox).bind λH=>match ki H.ca (ik x) with
  |none=>none
  |some (_,s)=>if x.1.ox=aj then none else(Bb S x.1.ox s.tg (jZ x) 0 1 aj).bind λr=>Be r.1 aj r.2
def tJ:tH:=⟨jW,0⟩
def Kb (S:WS) (aj h:Int) (l:tH):Option (WS×Int):=
 if l.x.1.fl≠0 then none else
 (ch S l.x.1.ox).bind λH=>match ki H.ca (ik l.x) with
  |none=>none
  |some (sh,s)=>if l.x.1.ox=aj\/jg s.cs 100<l.x.1.rf then none else
   (sI s.cs 100 (jg s.cs 100- l.x.1.rf)).bind λcs=>if jg cs aj+l.x.1.rf<1000000 then
    (sI cs aj (jg cs aj+l.x.1.rf)).bind λcs=>(Gh {H with ca:=cF H.ca sh {s with cs:=cs}} aj).bind λH=>
     Be (bV {S with di:=(cI tJ S.di h).1} l.x.1.ox H) aj l.x
   else none
def Kc (S:WS) (aj:Int):Option (WS×Int):=
 let S:={S with run:=none}
 let r:=qA S.heap 2 0
 if r.2.2≠0 then none else(vW {S with heap:=r.1,eM:=(r.2.1,aj)::S.eM} 0 true).bind λS=>Gk S aj (1,r.2.1) dW
def Gl:List ig:=[⟨3,0,0⟩,⟨2,0,0⟩,⟨5,0,0⟩,⟨4,0,0⟩,⟨3,0,0⟩,⟨11,0,0⟩]
def Gm:List ig:=[⟨9,0,0⟩,⟨3,0,0⟩,⟨11,0,0⟩]
def Kd (m:Int):Option (List ig):=if m=0 then some Gl else if m=1 then some Gm else none
def qB:Nat->pE->Int->Option (pE×Int×Int×Int)
 |0,_,_=>none
 |k+1,f,v=>if 8<f.stack.length then none else match f.code[f.aj]? with
  |none=>none
  |some x=>let f:={f with aj:=f.aj+1}
   if x.op=2 then qB k {f with stack:=f.stack++[f.arg]} v
   else if x.op=3 then qB k {f with stack:=f.stack++[v]} v
   else if x.op=4 then(f.stack.getLast?).bind λy=>qB k {f with stack:=f.stack.dropLast} y
   else if x.op=5 then(f.stack.getLast?).bind λy=>(f.stack.dropLast.getLast?).bind λz=>if-4611686018427387904<=z+y/\z+y<=4611686018427387904 then qB k {f with stack:=f.stack.dropLast.dropLast++[z+y]} v else none
   else if x.op=9 then some (f,3,x.a,v)
   else if x.op=11 then(f.stack.getLast?).map λy=>({f with stack:=f.stack.dropLast},1,y,v)
   else none
def qC:eX:=⟨0,0,0,0,none,(0,0),0,false,0,0,dX,0⟩
def Bf (S:WS) (h m n:Int) (arg:LK):Option (WS×Option eX×Int):=
 (Kd m).bind λc=>(xB S (1,h)).bind λr=>if r.2≠0 then some (r.1,none,r.2) else(xB r.1 arg).bind λr=>if r.2≠0 then none else
  (vW r.1 2 true).map λS=>(S,some {qC with ob:=h,mt:=m,n:=n,fr:=some ⟨c,n,0,[]⟩,arg:=arg},0)
def Ke (S:WS) (f:eX):Option WS:=if f.ob=0 then some S else(vW S 2 false).bind λS=>(rI S f.arg).bind λS=>rI S (1,f.ob)
def vY (S:WS) (aj:Int) (p:PK) (n code:Int):Option WS:=(oR S ⟨2,aj,p.fr,0,p.cl,dW,0,n,code,[]⟩).map (·.1)
def Gn (S:WS) (aj:Int) (f:eX) (n code:Int):Option WS:=
 if f.md≠0 then none else(ch S aj).bind λH=>let S:=bV S aj {H with th:=none}
  (if f.cl≠0 then pH S ⟨3,f.cl,0,n,0,code⟩ else if f.bk.kd≠0 then vY S aj f.bk n code else none).bind λS=>Ke S f
def Kf (S:WS) (aj:Int) (f:eX):Option WS:=
 (ch S aj).bind λH=>if f.ob=0 then Gn S aj f f.rs f.cd else
  (bg S.heap f.ob).bind λo=>f.fr.bind λg=>if f.md≠0\/32<g.code.length then none else(qB 32 g o.va).bind λr=>if r.2.2.2< -9223372036854775808\/9223372036854775807<r.2.2.2\/hB f.ob=false then none else
   let f':={f with fr:=if r.2.1=1 then none else some r.1,wt:=0,rd:=false,rs:=0,cd:=0}
   let S:=bV {S with heap:=cF S.heap f.ob {o with va:=r.2.2.2}} aj {H with th:=some f'}
   if r.2.1=1 then(pH S ⟨4,f.ob,f.mt,r.2.2.1,f.n,0⟩).bind λS=>Gn S aj f' r.2.2.1 0
   else if r.2.1=3 then(if(f.arg.1≠0/\f.arg.1≠1)\/hB f.arg.2=false\/(y4 1048576 S.heap f.ob r.2.2.1 f.arg).1≠0 then none else Ba {S with run:=none} (y4 1048576 S.heap f.ob r.2.2.1 f.arg)) else none
def Kg (S:WS) (aj:Int):Option WS:=
 (ch S aj).bind λH=>match H.ij with
  |[]=>none
  |p::q=>if p.rs≠[]\/H.th.isSome=true then none else
   let S:=bV S aj {H with ij:=q}
   match ki H.ca p.ip with
   |none=>vY {S with run:=none} aj p 0 10
   |some (_,s)=>(Bf S s.tg p.md p.n (0,0)).bind λr=>match r.2.1 with
    |none=>none
    |some f=>(ch r.1 aj).map λH=>bV r.1 aj {H with th:=some {f with bk:=p}}
def Kh (S:WS) (aj:Int):Option (WS×Int):=
 (ch S aj).bind λH=>match H.th with
  |some f=>if f.md≠0 then none else if f.wt=0\/f.rd=true then(if H.pF/\H.ij≠[] then none else(Kf S aj f).map λS=>(S,0)) else if H.ij=[] then some (S,12) else none
  |none=>if H.ij=[] then some (S,12) else(Kg S aj).map λS=>(S,0)
def Db (S:WS) (aj:Int) (lk:LK) (bm:aJ) (m n:Int):Option (WS×Int):=
 (ch S aj).bind λH=>(bg H.dA (lk.2%1152921504606846976)).bind λx=>(x.dz.find? (λy=>decide (jZ y=bm))).bind λy=>
  if m<0\/7<m\/(S.ft<0\/1000000<S.ft)\/vX bm=false\/hB lk.2=false then none else(oR {S with ft:=S.ft+1} ⟨1,aj,x.ox,0,S.ft+1,ik y,m,n,0,[]⟩).bind λr=>if r.2=0 then some (r.1,S.ft+1) else none
def Gp (S:WS) (aj:Int) (r:kX) (m n ed:Int):Option (WS×Int):=
 (ch S aj).bind λH=>if H.th.isSome=true\/1000000<S.ft\/vX r.bm=false then none else
 (if ed=0 then some (0,0) else(bg H.fi ed).map (·.lk)).bind λarg=>
 (if r.lk.1=1 then(Bf S r.lk.2 m n arg).bind λq=>q.2.1.map λf=>(q.1,f)
  else if arg≠(0,0) then none else(Db S aj r.lk r.bm m n).map λq=>(q.1,{qC with wt:=q.2})).bind λq=>
 if q.1.ft<0\/2000000<q.1.ft then none else(ch q.1 aj).bind λH=>(pH (bV {q.1 with ft:=q.1.ft+1} aj {H with th:=some {q.2 with cl:=q.1.ft+1}}) ⟨2,q.1.ft+1,0,0,0,0⟩).map λS=>(S,0)
structure nq where
 kind:Int
 aj:Int
 dR:Int
 ed:Int
 n:Int
 pG:Int
def Gq (S:WS) (aj:Int) (r:kX) (fl:Int):Option (WS×OR):=if r.lk.1≠1 then none else Bb S aj r.lk.2 r.bm fl (if fl=0 then 1 else 0) 100
def Ki (S:WS) (a:nq) (H:dr) (r:kX):Option (WS×Int):=
   if a.kind=3 then(if r.cn<1\/1000000<r.cn then none else if 1<r.cn then some (bV S a.aj {H with fi:=cF H.fi a.dR {r with cn:=r.cn- 1}},0) else(rI (bV S a.aj {H with fi:=(cI J9 H.fi a.dR).1}) r.lk).map λS=>(S,0))
   else if a.kind=5 then Gp S a.aj r a.pG a.n a.ed
   else if a.kind=6 then(if a.n≠0 then none else(Gq S a.aj r 0).bind λq=>let z:=put q.1.di ⟨q.2,a.aj⟩
    if z.2.2≠0 then none else(pH {q.1 with di:=z.1} ⟨1,z.2.1,0,0,0,0⟩).map λS=>(S,0))
   else if a.kind=9 then(Gq S a.aj r 1).bind λq=>if q.2.1.fl=0\/i9 q.2.1=false then none else let z:=put q.1.dG (a.aj,q.2)
    if z.2.2≠0 then none else(pH {q.1 with dG:=z.1} ⟨1,z.2.1,0,0,0,0⟩).map λS=>(S,0)
   else none
def Kj (S:WS) (a:nq):Option (WS×Int):=
 if a.kind=1 then(if a.dR≠0 then none else Kc S a.aj)
 else if a.kind=7 then(match bg S.di a.ed with|none=>none|some l=>Kb S a.aj a.ed l)
 else if a.kind=8 then(match bg S.di a.ed with|none=>some (S,2)|some l=>(Gj {S with di:=(cI tJ S.di a.ed).1} l.x).map λS=>(S,0))
 else if a.kind=10 then(match bg S.dG a.ed with|none=>none|some x=>Ka S a.aj x.2)
 else if a.kind=11 then(match bg S.dG a.ed with|none=>some (S,2)|some x=>(Gj {S with dG:=(cI (0,jW) S.dG a.ed).1} x.2).map λS=>(S,0))
 else if a.kind=14 then(if a.ed=0 then some (S,2) else none)
 else if a.kind≠3/\a.kind≠5/\a.kind≠6/\a.kind≠9 then none
 else(ch S a.aj).bind λH=>match bg H.fi a.dR with
  |none=>some (S,2)
  |some r=>
   Ki S a H r
def Kk (S:WS) (p:PK):Option WS:=
 (ch S p.to).bind λH=>
 if p.kd=1 then(if H.ij.length<=3/\p.rs=[] then some (bV S p.to {H with ij:=H.ij++[p]}) else none)
 else if p.kd=2 then match H.th with
  |none=>some S
  |some f=>if f.md≠0 then none else if f.wt=p.cl/\f.wt≠0/\f.rd=false then some (bV S p.to {H with th:=some {f with rd:=true,rs:=p.n,cd:=p.cd}}) else some S
 else if p.fr<0\/p.n<0\/4294967295<p.n then none
 else if p.kd=4 then release S p.to p.ip p.fr p.n
 else if p.kd=5 then(match H.gU with
  |[q]=>some (if q.1=p.fr then bV S p.to {H with gU:=[(q.1,H.bX)]} else S)
  |[]=>some S
  |_=>none)
 else none
def Gr (S:WS) (n:Int):Option (WS×Int):=
 let r:=gM S.cD n
 let S:={S with cD:=r.1}
 if r.2.2.2=0/\r.2.2.1=true then(Kk S r.2.1).map λS=>(S,0) else some (S,r.2.2.2)
def Gs (s:AS cC) (k:Int):Option (AS cC×aJ):=
 (cq 0 s.sp).foldl (λ(r:Option (AS cC×aJ)) p=>r.bind λr=>if jg p.2.x.cs k=0 then some r else
  (sI p.2.x.cs k 0).map λcs=>let s:=lJ r.1 (hd p.1 p.2.g) {p.2.x with cs:=cs}
   (s,if j1 s p.2.x.tg then r.2 else r.2++[p.2.x.tg])) (some (s,[]))
def Bg:aJ->Bool
 |x::y::l=>decide (x<y)&&Bg (y::l)
 |_=>true
def Kl (S:WS) (aj:Nat):Option WS:=
 (S.bQ[aj]?).bind λH=>if 1000000<H.bX\/H.gU.any (λp=>decide (1000000<p.2))=true then none else
 let bX:=H.bX+1
 (match H.gU with
  |[]=>some (bV S aj {H with bX:=bX})
  |[p]=>if 4<=bX- p.2 then(Gs H.ca p.1).bind λ(r:AS cC×aJ)=>if Bg r.2=true/\r.2.length<=9 then Bc (bV S aj {H with bX:=bX,gU:=[],ca:=r.1}) r.2 else none
   else some (bV S aj {H with bX:=bX})
  |_=>none).bind λS=>(S.bQ[aj]?).bind λH2=>if H2.bX≠bX then none else if bX%2≠0 then some S else
 (List.range S.bQ.length).foldl (λ(S:Option WS) (t:Nat)=>S.bind λS=>(S.bQ[aj]?).bind λH=>if t≠aj/\H.dA.sp.any (λy=>decide (y.st=1)&&decide (y.x.ox=t))=true then Option.map Prod.fst (oR S (⟨5,(aj:Int),(t:Int),0,0,dW,0,0,0,[]⟩:PK)) else some S) (some S)
def Bh (S:WS):Bool:=S.ld&&(decide (S.c0=0)&&decide (S.c2=0))
def Km (S:WS):Option WS:=if 1000000<S.cK then none else(List.range S.bQ.length).foldl (λ(S:Option WS) (aj:Nat)=>S.bind λS=>Kl S aj) (some (if Bh S then{S with cK:=S.cK+1} else S))
def idxOf (l:aJ) (h:Int):Option Nat:=l.findIdx? (·==h)
def Kn (S:HS):Option (aJ×List (List Nat)×aJ):=
 let ws:=(cq 0 S.sp).filterMap λp=>if p.2.x.ou=0 then some (hd p.1 p.2.g,p.2.x) else none
 let hs:=ws.map (·.1)
 if ws.any (λp=>p.2.cj≠[])=true\/(cq 0 S.sp).length≠ws.length then none else
 some (ws.map λp=>p.2.cn,ws.map λp=>p.2.ln.filterMap λx=>if x.1=1 then idxOf hs x.2 else none,hs)
def rJ (cZ:aJ) (lH:List (List Nat)):fz:=⟨cZ,lH,cZ.map λ_=>1,List.range cZ.length,[],0,0,none,0,[]⟩
def rK (r:fz):fz:=match r.waits with
 |[]=>{r with lI:=none,eC:=0}
 |n::ws=>{r with lI:=some n,eC:=0,waits:=ws}
def xC (r:fz):Option (fz×Option Nat):=
 match r.lI with
 |some n=>(r.lH[n]?).bind λes=>match es[r.eC]? with
  |some k=>some ({r with eC:=r.eC+1},some k)
  |none=>some (rK r,none)
 |none=>some (rK r,none)
def Dc (r:fz) (k:Nat):Option fz:=(r.eU[k]?).map λd=>if d=3 then r else{r with eU:=r.eU.set k 3,waits:=r.waits++[k]}
def Qt (r:fz) (k:Nat):Option fz:=(r.cZ[k]?).bind λc=>(r.eU[k]?).map λd=>
 if d=0 then{r with cZ:=r.cZ.set k (IntKind.i64.wrap (c- 1)),eU:=r.eU.set k 1,waits:=r.waits++[k]} else{r with cZ:=r.cZ.set k (IntKind.i64.wrap (c- 1))}
def Ko (q:fz×Option Nat):Option fz:=match q.2 with
 |some k=>Qt q.1 k
 |none=>match q.1.lI with
  |some n=>some {q.1 with eY:=q.1.eY++[n]}
  |none=>some {q.1 with mU:=1}
def Kp (q:fz×Option Nat):Option fz:=match q.2 with
 |some k=>Dc q.1 k
 |none=>match q.1.lI with
  |some _=>some q.1
  |none=>match q.1.eY[q.1.aj]? with
   |some h=>(q.1.cZ[h]?).bind λc=>(if 0<c then Dc q.1 h else some q.1).map λr=>{r with aj:=r.aj+1}
   |none=>some {q.1 with mU:=2,aj:=0}
def Kq (r:fz):Option fz:=if r.aj=r.eU.length then some {r with mU:=3} else(r.eU[r.aj]?).map λc=>
 if c=1 then{r with eU:=r.eU.set r.aj 2,da:=r.da++[r.aj],aj:=r.aj+1} else{r with aj:=r.aj+1}
def Qu (r:fz):Option fz:=
 if 5000<r.waits.length\/5000<r.eY.length\/5000<r.da.length\/5000<r.eC\/5000<r.aj then none
 else if r.mU=0 then(xC r).bind Ko
 else if r.mU=1 then(xC r).bind Kp
 else if r.mU=2 then Kq r
 else none
def za:Nat->fz->Option fz
 |0,r=>some r
 |n+1,r=>if r.mU=3 then some r else(Qu r).bind λr=>za n r
def Gu (S:WS) (n:Int):Option (WS×Int):=
 if n<1\/1048576<n then none else
 (match S.run with
  |some _=>some S
  |none=>(Kn S.heap).map λ(g:aJ×List (List Nat)×aJ)=>{S with run:=some (rJ g.1 g.2.1),jM:=g.2.2}).bind λS=>S.run.bind λr=>(za n.toNat r).bind λr=>
 if r.mU≠3 then some ({S with run:=some r},9) else
 let l:=r.da.filterMap λi=>S.jM[i]?
 if r.da.all (λi=>decide (i<S.jM.length))=false\/1000<r.da.length\/l.any (λx=> !hB x)=true then none else
 (Ba {S with run:=none} (xz S.heap l)).map λS=>(S,0)
def Kr (S:WS) (a:nq):Option (WS×Int):=
 if a.kind<1\/25<a.kind\/a.kind=18\/a.kind=24 then none
 else if a.kind=19 then(if Bh S&&decide (1<=S.cK) then(pH {S with ld:=false,cK:=0} ⟨6,0,0,0,0,0⟩).map (λS=>(S,0)) else some (S,0))
 else if a.kind=20 then Gu S a.n
 else if a.kind=22 then Gr S a.n
 else if a.kind=23 then(let r:=ia S.cD a.n;some ({S with cD:=r.1},r.2.2))
 else if a.kind=25 then(Km S).map λS=>(S,0)
 else(ch S a.aj).bind λ_=>if a.kind=21 then(if a.n≠0 then none else Kh S a.aj)
 else Kj S a
def Ks (S:WS) (a:nq):Option (WS×List TM×Int):=if hB a.dR=false\/hB a.ed=false\/a.n< -1000000000\/1000000000<a.n then none else(Kr {S with told:=[]} a).bind λr=>if 10000<r.1.told.length then none else some (r.1,r.1.told,r.2)
def tK (pF:Bool):dr:=⟨pF,⟨256,1,[],[],0⟩,⟨1024,1,[],[],0⟩,⟨256,1,[],[],0⟩,0,[],[],none⟩
def qD (pF:List Bool):WS:=⟨pF.map tK,⟨256,1,[],[],0⟩,[],⟨256,1,[],[],0⟩,⟨4096,[],λ_=>none,λ_=>none⟩,0,false,0,0,0,⟨256,1,[],[],0⟩,0,none,[],[]⟩
structure GM where
 w:WS
 l:List TM
def mg (g:GM) (a:nq):Option (GM×List TM×Int):=(Ks g.w a).bind λr=>if 1000000<g.l.length+r.2.1.length then none else some (⟨r.1,g.l++r.2.1⟩,r.2.1,r.2.2)
def Bi (g:GM) (a:nq):Option (GM×Int):=(mg g a).map λr=>(r.1,if r.2.2≠0 then 0 else match r.2.1 with|t::_=>if t.kind=1 then t.dR else 0|[]=>0)
def Dd (g:GM) (aj:Int):Option (GM×Int):=(mg g ⟨1,aj,0,0,0,0⟩).map λr=>(r.1,if r.2.2≠0 then 0 else match r.2.1 with|t::_=>t.dR|[]=>0)
def Qv (g:GM):Option (GM×Bool):=
 (List.range g.w.bQ.length).foldl (λ(r:Option (GM×Bool)) (aj:Nat)=>r.bind λr=>(mg r.1 ⟨21,aj,0,0,0,0⟩).map λq=>(q.1,r.2||decide (q.2.2=0))) (some (g,false))
def Bj:Nat->GM->Option (GM×Bool)
 |0,g=>some (g,false)
 |k+1,g=>(mg g ⟨22,0,0,0,0,0⟩).bind λr=>(Qv r.1).bind λq=>if decide (r.2.2=0)||q.2 then Bj k q.1 else some (q.1,true)
def Bk (g:GM) (aj dR n pG ed:Int):Option (GM×Option TM):=
 (mg g ⟨5,aj,dR,ed,n,pG⟩).bind λr=>if r.2.2≠0 then none else match r.2.1 with
  |[t]=>(Bj 3000 r.1).map λq=>(q.1,(q.1.l.drop r.1.l.length).find? λu=>decide (u.kind=3)&&decide (u.dR=t.dR))
  |_=>none
def Bl:Nat->GM->Int->Int->Option GM
 |0,g,_,_=>some g
 |k+1,g,aj,h=>(mg g ⟨3,aj,h,0,0,0⟩).bind λr=>if r.2.2≠0 then some r.1 else Bl k r.1 aj h
def Kt (S:WS) (aj:Nat):aJ:=match S.bQ[aj]? with|some H=>fH 0 H.fi.sp|none=>[]
def Ku (g:GM) (aj:Nat):Option GM:=(Kt g.w aj).foldl (λg h=>g.bind λg=>Bl 72 g aj h) (some g)
def De (g:GM) (kind:Int):Option GM:=(mg g ⟨kind,0,0,0,0,0⟩).bind λr=>if r.2.1.length≠0 then none else some r.1
def Df:Nat->GM->Option GM
 |0,g=>some g
 |k+1,g=>(De g 8).bind λr=>(De r 11).bind λr=>(De r 14).bind λr=>Df k r
def Kv (g:GM):Option GM:=((List.range g.w.bQ.length).foldl (λg aj=>g.bind λg=>Ku g aj) (some g)).bind λg=>Df 70 g
def Gv:Nat->GM->Option GM
 |0,g=>some g
 |k+1,g=>(mg g ⟨25,0,0,0,0,0⟩).bind λr=>(Bj 3000 r.1).bind λq=>(mg q.1 ⟨20,0,0,0,1048576,0⟩).bind λr=>Gv k r.1
def Kw (g:GM):Option GM:=(Gv 6 g).bind λg=>(mg g ⟨25,0,0,0,0,0⟩).bind λr=>(mg r.1 ⟨19,0,0,0,0,0⟩).map (·.1)
def Kx (g:GM):Bool:=
 decide (g.w.heap.bn=0)&&(!g.w.ld&&(decide (g.w.cD.row=[])&&g.w.bQ.all λH=>decide (H.fi.bn=0)&&(decide (H.dA.bn=0)&&(decide (H.ca.bn=0)&&(H.th.isNone&&decide (H.ij=[]))))))
def Qw:Option Bool:=
 (Dd ⟨qD [false,true],[]⟩ 0).bind λr=>(Bi r.1 ⟨6,0,r.2,0,0,0⟩).bind λm=>(Bi m.1 ⟨7,1,0,m.2,0,0⟩).bind λp=>(Bk p.1 1 p.2 7 0 0).bind λt=>
  if r.2=0\/m.2=0\/p.2=0 then some false else match t.2 with
  |none=>some false
  |some u=>if u.n≠7\/u.code≠0 then some false else(Kv t.1).bind λg=>(Kw g).map Kx
def mV (g:aJ):Prop:=g.length=16/\∀b∈g,0<=b/\b<=255
structure rL (x:cC):Prop where
 tg:0<=x.tg/\x.tg<=18446744073709551615
 bm:mV x.bm
 aZ:x.cs.length<=1
 cs:∀p∈x.cs,0<=p.2/\p.2<=1000000
 t1:0<=x.t1/\x.t1<=1000000
 t2:0<=x.t2/\x.t2<=1000000
def zb (x:cC):dB:=ah x.tg::bc x.bm
def Gw (x:cC) (kt:Nat):dB:=[al kt,aH 0,aH x.t1,aH x.t2]
def iU (x:cC) (kt:Nat):aM:=(zb x++Gw x kt).toArray
section
variable {x:cC} {kt:Nat}
theorem tL (h:x.bm.length=16):(zb x).length=17:=by simp[zb,dh,h]
theorem Dg (h:x.bm.length=16):(iU x kt).size=21:=by simp[iU,tL h,Gw]
theorem Bm:(iU x kt)[0]?=some (ah x.tg):=by simp[iU,zb]
theorem xD (h:x.bm.length=16):(iU x kt)[17]?=some (al kt):=by rw[iU,kI,ix (by rw[tL h];decide),tL h];rfl
theorem Bn (h:x.bm.length=16):(iU x kt)[19]?=some (aH x.t1):=by rw[iU,kI,ix (by rw[tL h];decide),tL h];rfl
theorem Ky (h:x.bm.length=16):(iU x kt)[20]?=some (aH x.t2):=by rw[iU,kI,ix (by rw[tL h];decide),tL h];rfl
theorem Qx (h:x.bm.length=16):(iU x kt).extract 1 (1+16)=gA x.bm:=by
 apply cT;rw[pV,iU,oZ];have hb:(bc x.bm).length=16:=by rw[dh,h]
 show((zb x++Gw x kt).drop 1).take (1+16- 1)=bc x.bm;rw[zb,pX,List.drop_one,List.tail_cons,qS (by omega)]
theorem Qy (h:x.bm.length=16) (n:Int):(iU x kt).setIfInBounds 19 (aH n)=iU {x with t1:=n} kt:=by apply cT;rw[rZ,iU,lp _ _ (by rw[tL h];decide),tL h];rfl
theorem aem (h:x.bm.length=16) (n:Int):(iU x kt).setIfInBounds 20 (aH n)=iU {x with t2:=n} kt:=by apply cT;rw[rZ,iU,lp _ _ (by rw[tL h];decide),tL h];rfl
end
def eD (k:Nat) (x:cC) (L:Nat×Nat):HP:=bM (rL x)*(ab k (iU x L.1) 327*hW L.1 L.2 (lk x.cs))
def SO (k:Nat) (ox:Int) (a:Nat) (P:iS) (S:AS cC):HP:=ab k #[ah ox,al a] 218*PA (St.Ar a) mD eD P S
def dD (k:Nat) (ox:Int) (S:AS cC):HP:=ex λa=>ex λP=>SO k ox a P S
section
variable {O w:ao} {F:HP} {k a kx:Nat} {ox:Int} {P:iS} {S:AS cC} {x:cC} {L:Nat×Nat}
theorem dD.aK (h:V O (dD k ox S*F) w):∃a P,V O (SO k ox a P S*F) w:=by obtain⟨a,h⟩:=V.ex h;obtain⟨P,h⟩:=V.ex h;exact⟨a,P,h⟩
theorem dD.aI (h:V O (SO k ox a P S*F) w):V O (dD k ox S*F) w:=V.bO a (V.bO P h)
theorem eD.aK (h:V O (eD kx x L*F) w):rL x/\V O (ab kx (iU x L.1) 327*(hW L.1 L.2 (lk x.cs)*F)) w:=by have h:=h.aF (B:=bM (rL x)*(ab kx (iU x L.1) 327*(hW L.1 L.2 (lk x.cs)*F))) (by unfold eD;ac_rfl);exact⟨h.bM,h.right⟩
theorem eD.aI (hx:rL x) (h:V O (ab kx (iU x L.1) 327*(hW L.1 L.2 (lk x.cs)*F)) w):V O (eD kx x L*F) w:=(h.eL hx).aF (by unfold eD;ac_rfl)
theorem SO.b (h:V O (SO k ox a P S*F) w):V O (ab k #[ah ox,al a] 218*(PA (St.Ar a) mD eD P S*F)) w:=h.aF (by unfold SO;ac_rfl)
theorem SO.p (h:V O (SO k ox a P S*F) w):V O (PA (St.Ar a) mD eD P S*(ab k #[ah ox,al a] 218*F)) w:=h.aF (by unfold SO;ac_rfl)
theorem SO.jK (h:V O (PA (St.Ar a) mD eD P S*(ab k #[ah ox,al a] 218*F)) w):V O (SO k ox a P S*F) w:=h.aF (by unfold SO;ac_rfl)
theorem SO.ok (h:V O (SO k ox a P S*F) w):bx S:=PA.ok (SO.p h)
theorem SO.at (h:V O (SO k ox a P S*F) w) {hn:Int} (hp:bg S hn=some x):∃kx L R,P hn=some kx/\rL x/\V O (eD kx x L*(R*F)) w/\ ∀(x':cC) (L':Nat×Nat) (F':HP) (w':ao),V O (eD kx x' L'*(R*F')) w'->V O (SO k ox a P (cF S hn x')*F') w':=by obtain⟨kx,L,R,h1,h2,h3⟩:=PA.at (SO.p h) hp;refine⟨kx,L,R*ab k #[ah ox,al a] 218,h1,(eD.aK h2).1,h2.aF (by ac_rfl),λx' L' F' w' h'=>SO.jK (h3 x' L' _ w' (h'.p1.a.p2))⟩
theorem aen {aR:Int} (h:V O F w) (h0:1<=aR) (h1:aR<=65536):ae 41 #[ah ox,aa aR] w λv w'=>∃k,v=ak #[al k,aa 0]/\V O (dD k ox ⟨aR,1,[],[],0⟩*F) w':=by apply Xx;refine ay (nW.new (aR:=aR) (first:=1) h h0 h1 (by decide)) ?_;rintro _ w1 ⟨a,rfl,h2⟩;refine⟨_,_,rfl,aw rfl<|aG h2 λk4 w2 h3=>⟨k4,rfl,dD.aI (a:=a) (P:=λ_=>none) (SO.jK ?_)⟩⟩;refine PA.aI (s:=⟨aR,1,[],[],0⟩) ⟨rfl,λy hy=>by simp at hy,λh=>by simp[bg,find]⟩ ⟨h0,h1,show(1:Int)<=1 by decide,show(1:Int)<=4294967295 by decide,by simp;omega,by simp,by simp,by simp,by simp,by simp⟩ ?_;exact(h3.cQ).aF (by show cW*_=St.Ar a ⟨aR,1,[],[],0⟩*(cW*(ab k4 _ 218*F));ac_rfl)
theorem aeo (x:cC):y8 x=(decide (0<ma x.cs)||(decide (0<x.t1)||decide (0<x.t2))):=rfl
theorem aep (h:V O (eD kx x L*F) w):ae 254 #[al kx] w λv w'=>v=aC (y8 x)/\V O (eD kx x L*F) w':=by apply XM;obtain⟨hx,h1⟩:=eD.aK h;have hi:=hx.bm.1;refine aq<|bh (aB h1 (xD hi))<|ay (PR hx.aZ (λp hp=>by have:=hx.cs p hp;omega) h1.p1) ?_;rintro _ w1 ⟨rfl,h2⟩;have h3:=h2.p1;rw[aeo];refine bI<|bU (λhg=>⟨by simp[show 0<ma x.cs from hg],eD.aI hx h3⟩) λhg=>aq<|lY (by decide) (by decide)<|az (n:=x.t1) (by rw[Sp.jG];exact aB h3 (i:=19) (Bn hi))<|bU (λfq=>⟨by simp[show 0<x.t1 from fq],eD.aI hx h3⟩) λfq=>aq<|lY (by decide) (by decide)<|az (n:=x.t2) (by rw[Sp.jG];exact aB h3 (i:=20) (Ky hi)) ⟨?_,eD.aI hx h3⟩;have e1:¬0<ma x.cs:=hg;have e2:¬0<x.t1:=fq;simp[e1,e2]
theorem Dh {g:aJ} (hg:mV g) (h:V O (SO k ox a P S*F) w): ae 237 #[al k,an (gA g)] w λv w'=>V O (SO k ox a P S*F) w'/\ ((ki S g=none/\v=ak #[ag none,ah 0,aa 10])\/∃hn kx x,ki S g=some (hn,x)/\bg S hn=some x/\P hn=some kx/\v=ak #[al kx,ah hn,aa 0]):=by
 apply XL;have hs:=iO hg.1;refine aG h λk1 w1 h1=>bz h1 hs<|ay (acg hg.1 hg.2 h1) ?_;rintro _ w2 ⟨rfl,h2⟩;have h2:=h2.right;refine⟨_,_,rfl,aw rfl ?_⟩;unfold ki;cases hn:vL g with
 |none=>exact aW rfl ⟨h2,.inl ⟨rfl,rfl⟩⟩
 |some n=>
  have hr:0<=n/\n<=18446744073709551615:=by
   unfold vL at hn;split at hn
   .cases hn;have:=OC (g.drop 8) λb hb=>hg.2 b (sV hb);have hl:(g.drop 8).length=8:=by rw[sc,hg.1]
    rw[hl] at this;omega
   .cases hn
  refine aw rfl<|aq<|bh (aB (SO.b h2) (i:=1) rfl)<|ay (PA.Qf nW (SO.p h2) hr.1 hr.2) ?_;rintro _ w3 ⟨rfl,⟨hp,rfl⟩|⟨kx,x,hp,hk,rfl⟩⟩
  .have hp:bg S n=none:=hp;exact⟨_,_,rfl,aW rfl ⟨h2,.inl ⟨by simp[hp],rfl⟩⟩⟩
  .have hp:bg S n=some x:=hp;exact⟨_,_,rfl,aw rfl ⟨h2,.inr ⟨n,kx,x,by simp[hp],hp,hk,rfl⟩⟩⟩
theorem Qz {α:Type} {z:α} {S:AS α} (hs:bx S) {h:Int} {x x':α} (hp:bg S h=some x):gz z (cF S h x') h=gz z S h:=by
 obtain⟨i,y,h1,h2,h3,h4,h5⟩:=tz hs hp;have aQ:=(ct.1 h2).1;have e:cF S h x'={S with sp:=S.sp.set i ⟨x',y.g,y.st⟩}:=by unfold cF;rw[h1];exact uM h2
 have cG:=nS hs hp (x:=x') h;rw[if_pos rfl] at cG;obtain⟨j,u,q1,q2,q3,q4,q5⟩:=tz hs.up cG;have hj:j=i:=by have:=q4.symm.trans h4;have hu:(cF S h x').sp[j]?=some u:=q2;exact(yR (tx hs.up q2) (tx hs h2) this).1
 subst hj;rw[vS hs.up (e:=x') q1 q2,vS hs (e:=x) h1 h2,e];rw[e] at q2;have hu:u=⟨x',y.g,y.st⟩:=by have:(S.sp.set j ⟨x',y.g,y.st⟩)[j]?=some u:=q2;rw[List.getElem?_set_self aQ] at this;exact(Option.some.inj this).symm
 unfold jX;simp only[h2,List.getElem?_set_self aQ,jF]
theorem aeq {hn:Int} (hp:bg S hn=some x) (hk:P hn=some kx) (h:V O (SO k ox a P S*F) w): ae 166 #[al k,al kx,ah hn] w λv w'=>v=aT/\ ((y8 x=true/\V O (SO k ox a P S*F) w')\/(y8 x=false/\∃L,V O (eD kx x L*(SO k ox a (qz P hn none) (gz mD S hn)*F)) w')):=by
 apply XF;have ho:=SO.ok h;obtain⟨rM,L,R,cV,hx,h1,cl⟩:=SO.at h hp;rw[hk] at cV;cases cV;refine ay (aep h1) ?_;rintro _ w1 ⟨rfl,h2⟩;have h3:=cl x L F w1 h2;rw[JU hp ho] at h3;refine cR<|cy (λhu=> ?_) (λhu=> ?_)
 .have hu:y8 x=false:=by simpa using hu
  refine aq<|bh (aB (SO.b h3) (i:=1) rfl)<|ay (PA.C3 nW (SO.p h3) hp) ?_;rintro _ w2 ⟨kd,Ld,rfl,qd,h4⟩;rw[hk] at qd;cases qd;exact⟨_,_,rfl,rfl,.inr ⟨hu,Ld,(SO.jK (F:=eD kx x Ld*F) (h4.p2.p2)).p1⟩⟩
 .have hu:y8 x=true:=by simpa using hu
  exact⟨rfl,.inl ⟨hu,h3⟩⟩
theorem QA {hn:Int} {x':cC} (hp:bg S hn=some x) (hk:P hn=some kx) (h:V O (SO k ox a P (cF S hn x')*F) w) (ho:bx S): ae 166 #[al k,al kx,ah hn] w λv w'=>v=aT/\∃P',(∀y,y≠hn->P' y=P y)/\∃D:HP,V O (D*(SO k ox a P' (lJ S hn x')*F)) w'/\ ∀w G,V O (D*(SO k ox a P' (lJ S hn x')*G)) w->w.cell? ((aD kx).add 0)=some (ah x'.tg):=by
 have cG:bg (cF S hn x') hn=some x':=by rw[nS ho hp,if_pos rfl]
 refine ay (aeq cG hk h) ?_;rintro _ w1 ⟨rfl,⟨hu,h1⟩|⟨hu,L,h1⟩⟩
 .refine⟨rfl,P,λ_ _=>rfl,cW,?_,λw G hw=> ?_⟩
  .rw[lJ,if_pos hu];exact h1.cQ
  .rw[lJ,if_pos hu] at hw;obtain⟨rM,L,R,cV,_,h2,_⟩:=SO.at hw.right cG;rw[hk] at cV;cases cV;exact aB (eD.aK h2).2 Bm
 .refine⟨rfl,qz P hn none,λy hy=>by simp[qz,hy],eD kx x' L,?_,λw G hw=>aB (eD.aK hw).2 Bm⟩;rw[lJ,if_neg (by simp[hu])];rw[Qz ho hp] at h1;exact h1
theorem Kz {hn:Int} {x':cC} (hp:bg S hn=some x) (hk:P hn=some kx) (h:V O (SO k ox a P (cF S hn x')*F) w) (ho:bx S): ae 166 #[al k,al kx,ah hn] w λv w'=>v=aT/\∃P',(∀y,y≠hn->P' y=P y)/\V O (SO k ox a P' (lJ S hn x')*F) w':=ay (QA hp hk h ho) λv w' ⟨h1,P',h2,D,h3,_⟩=>⟨h1,P',h2,h3.right⟩
theorem Di (cs:List (Int×Int)) (key:Int) (hc:cs.length<=1):(lk cs key).getD 0=jg cs key:=by
 match cs,hc with
 |[],_=>rfl
 |[p],_=>
  obtain⟨p1,p2⟩:=p;by_cases e:p1=key
  .subst e;simp[lk,jg]
  .have:(key==p1)=false:=by simpa using λh=>e h.symm
   simp[lk,jg,List.lookup,this,e]
theorem Bo {cs cs':List (Int×Int)} {key n:Int} (h:sI cs key n=some cs'):ry (lk cs) key n=lk cs'/\cs'.length<=1/\∀p∈cs',p.2=n/\n≠0:=by
 unfold sI at h;split at h
 .cases h;by_cases hn:n=0
  .subst hn;refine⟨?_,by simp,by simp⟩;funext y;simp[ry,fg,lk]
  .refine⟨?_,by simp[hn],by simp[hn]⟩;funext y;by_cases e:y=key
   .subst e;simp[ry,hn,fg,lk]
   .have:(y==key)=false:=by simpa using e
    simp[ry,hn,fg,lk,e,List.lookup,this]
 .rename_i p;obtain⟨p1,p2⟩:=p;split at h
  .rename_i hk;have hk:p1=key:=hk;subst hk;cases h;by_cases hn:n=0
   .subst hn;refine⟨?_,by simp,by simp⟩;funext y;by_cases e:y=p1
    .simp[ry,fg,lk,e]
    .have:(y==p1)=false:=by simpa using e
     simp[ry,fg,lk,e,List.lookup,this]
   .refine⟨?_,by simp[hn],by simp[hn]⟩;funext y;by_cases e:y=p1
    .subst e;simp[ry,hn,fg,lk]
    .have:(y==p1)=false:=by simpa using e
     simp[ry,hn,fg,lk,e,List.lookup,this]
  .cases h
 .cases h
theorem Dj {x:cC} (hx:rL x) (key:Int):0<=jg x.cs key/\jg x.cs key<=1000000:=by
 unfold jg;split
 .rename_i p hp;exact hx.cs p (List.mem_of_find?_eq_some hp)
 .decide
theorem rL.Dk {x:cC} (hx:rL x) {cs:List (Int×Int)} {key n:Int} (h:sI x.cs key n=some cs) (hn:0<=n/\n<=1000000):rL {x with cs:=cs}:=by obtain⟨_,h1,h2⟩:=Bo h;exact⟨hx.tg,hx.bm,h1,λp hp=>by have:=(h2 p hp).1;omega,hx.t1,hx.t2⟩
def uR (s:AS cC) (rH:aJ) (db n:Int):Option (AS cC):=
 match ki s rH with
 |none=>some s
 |some (h,x)=>if jg x.cs db<n then some (lJ s h x) else(sI x.cs db (jg x.cs db- n)).map λcs=>lJ s h {x with cs:=cs}
theorem QB {g:aJ} {db n:Int} {S':AS cC} (hg:mV g) (hn:0<=n) (h:V O (dD k ox S*F) w) (hm:uR S g db n=some S'): ae 159 #[al k,an (gA g),ah db,aH n] w λv w'=>(∃e,v=aa e)/\V O (dD k ox S'*F) w':=by
 obtain⟨a,P,h⟩:=dD.aK h;apply XE;have hs:=iO hg.1;have ho:=SO.ok h;refine aG h λk1 w1 h1=>bz h1 hs<|ay (Dh hg h1.p1) ?_;unfold uR at hm;rintro _ w2 ⟨h2,⟨hf,rfl⟩|⟨KA,kx,x,hf,hp,hk,rfl⟩⟩
 .rw[hf] at hm;cases hm;exact⟨_,_,_,rfl,aW rfl ⟨⟨_,rfl⟩,dD.aI (h2.p1.right)⟩⟩
 .rw[hf] at hm;dsimp only at hm;obtain⟨rM,L,R,cV,hx,h3,cl⟩:=SO.at h2 hp;rw[hk] at cV;cases cV;obtain⟨_,h4⟩:=eD.aK h3;have hi:=hx.bm.1;have hr:=Dj hx db;have hl:=Di x.cs db hx.aZ;refine⟨_,_,_,rfl,aw rfl<|aq<|bh (aB h4 (xD hi))<|ay (JE (key:=db) (n:=n) h4.p1 (by omega) hn) ?_⟩;rintro _ w3 (⟨aQ,rfl,rfl⟩|⟨bW,rfl,h5⟩)
  .rw[if_pos (by omega)] at hm;cases hm;have h6:=cl x L _ w3 h3;refine⟨_,_,rfl,ay (Kz hp hk h6 ho) ?_⟩;rintro _ w4 ⟨rfl,P',_,h7⟩;exact⟨rfl,⟨_,rfl⟩,dD.aI h7.p1.right⟩
  .rw[if_neg (by omega)] at hm;obtain⟨cs,dT,rfl⟩:=dd.1 hm;rw[hl] at h5;rw[(Bo dT).1] at h5;have h6:=cl {x with cs:=cs} L _ w3 (eD.aI (hx.Dk dT (by omega)) (h5.p1));refine⟨_,_,rfl,ay (Kz hp hk h6 ho) ?_⟩;rintro _ w4 ⟨rfl,P',_,h7⟩;exact⟨rfl,⟨_,rfl⟩,dD.aI h7.p1.right⟩
end
end Go.Proofs.YtjhnnnfnkjighaaGreatDoor
