/- Whole: a part of the proof. No conditions. -/
import Derived.Test.YtjhnnnfnkjighaaGreatDoorQ21
set_option linter.unusedVariables false
set_option linter.unusedSimpArgs false
set_option maxRecDepth 100000
namespace Go.Proofs.YtjhnnnfnkjighaaGreatDoor
open Go.Sp Go.RowKit
section
variable {O w:ao} {F:HP} {k:Nat} {S:WS} {P:WP} {I:WI}
theorem WO.eB (h:V O (WO P k S*F) w):P.bw.length=S.bQ.length:=by have h1:=h.aF (B:=bT P k S*(dO 0 P.bw S.bQ*iX P k S*F)) (by rw[WO.bQ];ac_rfl);exact(bT.aK h1).1.2.2
theorem S9 {ks:Nat} {ox t:Int} {s:AS cC} (h:V O (dD ks ox s*F) w):ae 167 #[al ks,ah t] w λv w'=>v=aC (j1 s t)/\V O (dD ks ox s*F) w':=by obtain⟨a,PP,h⟩:=dD.aK h;refine ay (QH h) ?_;rintro _ w' ⟨rfl,h1⟩;exact⟨rfl,V.bO a (V.bO PP h1)⟩
theorem Ta {ks:Nat} {ox:Int} {s:AS cC} {g:aJ} {q:Int×cC} (h:V O (dD ks ox s*F) w) (hq:ki s g=some q):rL q.2:=by obtain⟨a,PP,h⟩:=dD.aK h;unfold ki at hq;obtain⟨n,_,hq⟩:=bZ.1 hq;obtain⟨x,hx,rfl⟩:=dd.1 hq;obtain⟨_,_,_,_,h1,_⟩:=SO.at h hx;exact h1
theorem ajc {fr t:Int} {s':AS cC} {S':WS} (hm:changed S fr t s'=some S'):∃H,ch S fr=some H/\ ((j1 H.ca t=true/\j1 s' t=false/\Bc (bV S fr {H with ca:=s'}) [t]=some S')\/(j1 H.ca t=j1 s' t/\S'=bV S fr {H with ca:=s'})):=by
 unfold changed at hm;obtain⟨H,hH,hm⟩:=bZ.1 hm;refine⟨H,hH,?_⟩;dsimp only at hm;cases h1:j1 H.ca t<;>cases h2:j1 s' t<;>rw[h1,h2] at hm
 .cases hm;exact .inr ⟨rfl,rfl⟩
 .cases hm
 .exact .inl ⟨rfl,rfl,hm⟩
 .cases hm;exact .inr ⟨rfl,rfl⟩
theorem Mp {fr:Int} {g:aJ} {H:dr} {fn:Fn} {y z:aM} {S':WS} (hg:mV g) (cv:0<=fr) (hH:ch S fr=some H) (hm:(ki H.ca g=none/\S'=S)\/∃h x s',ki H.ca g=some (h,x)/\changed S fr x.tg s'=some S'/\ ∀G w1,V O (WO P k S*(G*F)) w1->gi au fn y z #[] w1 λv w2=>(∃e,v=aa e)/\V O (WO P k (bV S fr {H with ca:=s'})*(G*F)) w2) (hI:P.im=I) (h:V O (WO P k S*F) w): ae 157 #[al k,ah fr,an (gA g),.func fn y z] w λv w'=>(∃e,v=aa e)/\V O (WH k I S'*F) w':=by
 have eB:=WO.eB h;have aQ:fr.toNat<S.bQ.length:=by
  unfold ch at hH;split at hH
  .cases hH
  .exact(ct.1 hH).1
 obtain⟨kh,Q,Y,h1,gd,h0,hQ,bt⟩:=WO.rW hH h;have Mq:=iO hg.1;apply aap;have Mo:WO P k S*F=WO P k S*F:=rfl;refine aG h λk1 w1 h2=>aq<|aN (WO.cell (i:=0) h2.p1 rfl)<|fx (by omega) (by
  have:(P.bw.length:Int)<=18446744073709551615:=by
   have h3:=h2.p1;have h4:=h3.aF (B:=bT P k S*(dO 0 P.bw S.bQ*iX P k S*(ab k1 (gA g) 30*F))) (by rw[WO.bQ];ac_rfl);have h5:=(bT.aK h4).2.right.left;have hc:=h5.po;rcases hc.2 with⟨_,e⟩|⟨g',cap,cur,e,_,_,q1,q2,_⟩
   .omega
   .simp only[maxLen] at q2;omega
  exact this)<|aw (by simp;omega)<|aq<|aN (WO.cell (i:=0) h2.p1 rfl)<|WO.lj h2.p1 gd h0<|aq ?_
 obtain⟨x7,Q2,Y2,h3,Tb,_,Tc,BQ⟩:=WO.SS hH h2.p1;have ekh:x7=kh:=by rw[gd] at Tb;cases Tb;rfl
 subst ekh;have dk:=HO.zC h3;have bw:Q2.ks=x7.ks:=congrArg eA.ks Tc;rw[bw] at dk;have m4:w1.cell? ((aD x7.kh).add 3)=some (al x7.ks):=by have:=HO.cell h3 (i:=3) (v:=al Q2.ks) rfl;rwa[bw] at this
 refine bh m4<|bz h2 Mq<|ay (QC hg dk) ?_;rintro _ w2 ⟨rfl,h4⟩;have jK:∀{w':ao} {s:AS cC},V O (dD x7.ks fr s*(zB Q2 x7.kh fr H*Y2)) w'->V O (WO P k (bV S fr {H with ca:=s})*(ab k1 (gA g) 30*F)) w':=λ{w' s} hs=>by rw[<-bw] at hs;have:=BQ cW _ _ _ Tc (HO.zD s (hs.cQ.e3.e3.e3));exact(this.p1.a.p2.e3).Ah
 have nc:bV S fr {H with ca:=H.ca}=S:=by
  unfold bV;unfold ch at hH;split at hH
  .cases hH
  .obtain⟨_,e⟩:=ct.1 hH;have:S.bQ.set fr.toNat H=S.bQ:=by rw[<-e,EE]
   show({S with bQ:=S.bQ.set fr.toNat H}:WS)=S;rw[this]
 have hb:=jK h4;rw[nc] at hb;clear h1 bt BQ h3 dk m4 jK;rcases hm with⟨hf,rfl⟩|⟨hn,x,s',hf,hc,j8⟩
 .unfold xF;rw[hf];refine⟨_,_,_,rfl,aG hb λmh w3 h5=>bL h5 rfl rfl (λu hu=>jt _ u (by simpa[gA] using hu)) λw4 h6=>aW rfl ⟨⟨_,rfl⟩,?_⟩⟩;exact(WH.aI hI h6.right).p1.right
 .have hx:=Ta h4 hf;unfold xF;rw[hf];obtain⟨H',Td,hch⟩:=ajc hc;rw[hH] at Td;cases Td;refine⟨_,_,_,rfl,aG hb λmh w3 h5=>bL h5 rfl (iO hx.bm.1) (λu hu=>jt _ u (by simpa[gA] using hu)) λw4 h6=>aw rfl ?_⟩;have h6:V O (WO P k S*((ab mh (gA x.bm) 30*ab k1 (gA g) 30)*F)) w4:=h6.aF (by ac_rfl);generalize ab mh (gA x.bm) 30*ab k1 (gA g) 30=G at h6;have Te:∀{w5:ao} {S5:WS} {H5:dr} {K:Value->ao->Prop},ch S5 fr=some H5->V O (WO P k S5*(G*F)) w5->(∀w6,V O (WO P k S5*(G*F)) w6->K (aC (j1 H5.ca x.tg)) w6)->ae 167 #[al x7.ks,ah x.tg] w5 K:=by
   intro w5 S5 H5 K zE h7 hk;obtain⟨κ5,Q5,Y5,h8,Tf,_,Tg,ajf⟩:=WO.rW zE h7;rw[gd] at Tf;cases Tf;have Th:Q5.ks=x7.ks:=congrArg eA.ks Tg;have h9:=HO.zC h8;rw[Th] at h9;refine ay (S9 h9) ?_;rintro _ w6 ⟨rfl,aV⟩;refine hk w6 ?_;rw[<-Th] at aV;have bu:=ajf _ _ _ Tg (HO.zD _ aV);have ajg:bV S5 fr {H5 with ca:=H5.ca}=S5:=by
    unfold bV;unfold ch at zE;split at zE
    .cases zE
    .obtain⟨_,e⟩:=ct.1 zE;have:S5.bQ.set fr.toNat H5=S5.bQ:=by rw[<-e,EE]
     show({S5 with bQ:=S5.bQ.set fr.toNat H5}:WS)=S5;rw[this]
   rwa[ajg] at bu
  refine Te hH h6 λw5 h7=>cR<| ?_;have lR:ch (bV S fr {H with ca:=s'}) fr=some {H with ca:=s'}:=by unfold ch bV;rw[if_neg (by omega)];show(S.bQ.set fr.toNat {H with ca:=s'})[fr.toNat]?=_;simp[aQ]
  have hV:=j8 G w5 h7;refine nH hV ?_;rintro _ w6 ⟨⟨e,rfl⟩,h8⟩;refine bI<|Te lR h8 λw7 h9=>cR<| ?_;rcases hch with⟨b1,b2,hu⟩|⟨b1,rfl⟩
  .rw[b1,b2];refine aW rfl<|aW rfl<|aG h9 λsu w8 aV=> ?_;have bu:=WH.aI hI (aV.p1);refine ay (S8 (l:=[x.tg]) hu ?_ (by simp) bu) ?_
   .have:=bd.left (B:=G*F) (bd.ob (b:=su) (cs:=#[ah x.tg]) (t:=26) (fr:=(0,0)) (sz:=1) (l:=1) rfl);exact this
   .rintro _ w9 ⟨rfl,bA⟩;exact⟨rfl,⟨_,rfl⟩,bA.p1.right.p1.right⟩
  .have fin:=(WH.aI hI h9).p1.right;rw[b1];cases j1 s' x.tg
   .exact aw rfl<|aW rfl<|aw rfl ⟨⟨_,rfl⟩,fin⟩
   .exact aW rfl<|aw rfl<|aw rfl ⟨⟨_,rfl⟩,fin⟩
theorem BR {aj:Int} {H:dr} (h:ch S aj=some H):0<=aj:=by
 unfold ch at h;split at h
 .cases h
 .omega
theorem ajh {y:OR} {db:Int} {H:dr} {s':AS cC} {k1 k2 k3:Nat} {t1 t2 t3:TypeId} (hH:ch S y.1.ox=some H) (hs:uR H.ca (ik y) db y.1.rf=some s') (h:V O (WO P k S*(ab k3 #[ah db] t3*(ab k2 (bF y.1) t2*(ab k1 #[al k] t1*F)))) w): ae 273 #[al k1,al k2,al k3] w λv w'=>(∃e,v=aa e)/\V O (WO P k (bV S y.1.ox {H with ca:=s'})*(ab k3 #[ah db] t3*(ab k2 (bF y.1) t2*(ab k1 #[al k] t1*F)))) w':=by have h:=h.drew;obtain⟨κ,Q,Y,h1,gd,h0,hQ,bt⟩:=WO.rW hH h;apply aaJ;refine bh (fS h.p3 rfl)<|aq<|aN (WO.cell (i:=0) h rfl)<|az (n:=y.1.ox) (aB h.p2 (i:=2) rfl)<|WO.lj h gd h0<|aq<|bh (HO.cell h1 (i:=3) rfl)<|ff h.p2 (by rw[dq y.2];decide) ?_;rw[v3];refine az (n:=db) (fS h.p1 rfl)<|az (n:=y.1.rf) (aB h.p2 (i:=1) rfl)<|ay (QB (uV y) y.2.rf.1 (HO.zC h1) hs) ?_;rintro _ w1 ⟨⟨e,rfl⟩,h2⟩;exact bI ⟨⟨_,rfl⟩,bt _ _ _ hQ (HO.zD _ h2)⟩
theorem aji {y:OR} {db:Int} {S':WS} (hm:release S y.1.ox (ik y) db y.1.rf=some S') (h:V O (WH k I S*F) w):ae 185 #[al k,an (bF y.1),ah db] w λv w'=>v=aT/\V O (WH k I S'*F) w':=by
 obtain⟨P,hI,h⟩:=WH.aK h;unfold release at hm;split at hm
 .cases hm
 rename_i H hH;apply aaw;refine aG h λk1 w1 h1=>aG h1 λk2 w2 h2=>aG h2 λk3 w3 h3=> ?_;obtain⟨t1,t2,t3,h3⟩:∃t1 t2 t3,V O (WO P k S*(ab k3 #[ah db] t3*(ab k2 (bF y.1) t2*(ab k1 #[al k] t1*F)))) w3:=⟨_,_,_,h3.p3⟩;refine bh (fS h3.p3 rfl)<|az (n:=y.1.ox) (aB h3.p2 (i:=2) rfl)<|ff h3.p2 (by rw[dq y.2];decide) ?_;rw[v3];have fin:∀{w':ao} {S1:WS},V O (WH k I S1*(ab k3 #[ah db] t3*(ab k2 (bF y.1) t2*(ab k1 #[al k] t1*F)))) w'->V O (WH k I S1*F) w':=λhs=>hs.p1.right.p1.right.p1.right;refine ay (Mp (S':=S') (uV y) (BR hH) hH ?_ hI h3) ?_
 .split at hm
  .rename_i hf;cases hm;exact .inl ⟨hf,rfl⟩
  .rename_i hn x hf;have main:∀s',uR H.ca (ik y) db y.1.rf=some s'->changed S y.1.ox x.tg s'=some S'->∃h x s',ki H.ca (ik y)=some (h,x)/\changed S y.1.ox x.tg s'=some S'/\∀G w1,V O (WO P k S*(G*(ab k3 #[ah db] t3*(ab k2 (bF y.1) t2*(ab k1 #[al k] t1*F))))) w1->gi au (.func 273) #[] #[al k1,al k2,al k3] #[] w1 λv w2=>(∃e,v=aa e)/\V O (WO P k (bV S y.1.ox {H with ca:=s'})*(G*(ab k3 #[ah db] t3*(ab k2 (bF y.1) t2*(ab k1 #[al k] t1*F))))) w2:=by intro s' hs hc;refine⟨hn,x,s',hf,hc,λG w1 h4=>Bt Tryz.func273 rfl<|ay (ajh (F:=G*F) hH hs (h4.aF (by ac_rfl))) ?_⟩;rintro v w2 ⟨he,h5⟩;exact⟨he,h5.p4.p1⟩
   split at hm
   .rename_i aQ;exact .inr (main _ (by rw[uR,hf];simp[aQ]) hm)
   .rename_i bW;obtain⟨cs,dT,hm⟩:=bZ.1 hm;exact .inr (main _ (by rw[uR,hf];simp[bW,dT]) hm)
 .rintro _ w4 ⟨⟨e,rfl⟩,h4⟩;exact bI ⟨rfl,fin h4⟩
end
theorem ajj {a h:Int} (h0:0<=a) (h1:a<=15) (h2:0<=h) (h3:h<1152921504606846976):gr .or .u64 (a*1152921504606846976) h=a*1152921504606846976+h:=by
 obtain⟨x,rfl⟩:=B5 h2;obtain⟨c,rfl⟩:=B5 h0;have e1:(c:Int)*1152921504606846976=((c*1152921504606846976:Nat):Int):=by omega
 rw[e1,Oj _ _ (by omega) (by omega)];have:=Ex (i:=60) (show x<2^60 by omega) c;rw[Nat.shiftLeft_eq] at this;have e2:c*1152921504606846976|||x=c*1152921504606846976+x:=this.symm;rw[e2];omega
section
variable {O w:ao} {F:HP} {k:Nat} {S:WS} {P:WP} {I:WI}
theorem ajk {aj h:Int} (h0:0<=aj) (h1:aj<=15) (h2:0<=h) (h3:h<=18446744073709551615) (hs:V O F w):ae 265 #[aa aj,ah h] w λv w'=>v=an (fv (J6 aj h))/\V O F w':=by
 apply aaH;have e:aj*2^(60:Int).toNat=aj*1152921504606846976:=rfl;refine aG hs λk1 w1 h4=>fx (by omega) (by omega) ?_;refine⟨by decide,?_⟩;have e2:IntKind.u64.wrap (aj*2^(min (60:Int).toNat IntKind.u64.bits))=aj*1152921504606846976:=by rw[show min (60:Int).toNat IntKind.u64.bits=60 from rfl];exact s9 (by show(0:Int)<=_;omega) (by show _<=(18446744073709551615:Int);omega)
 rw[e2];dsimp only;rw[Mm h2 h3,ajj h0 h1 (by omega) (by omega)];exact bL h4 rfl rfl (by simp[Value.oneCell']) λw2 h5=>bz h5 rfl ⟨rfl,h5.right⟩
theorem ji.aK {b:Nat} {s:AS kX} (h:V O (ji b s*F) w):bx s/\V O (Rf.Ar b s*F) w:=by have h:=h.a;exact⟨h.bM,h.right⟩
theorem ji.aI {b:Nat} {s:AS kX} (hs:bx s) (h:V O (Rf.Ar b s*F) w):V O (ji b s*F) w:=(V.eL hs h).g1
theorem Ti {aj:Int} {lk:LK} {bm:aJ} {r:WS×Int} (hm:Gk S aj lk bm=some r) (h:V O (WH k I S*F) w):ae 198 #[al k,aa aj,an (fv lk),an (gA bm)] w λv w'=>v=aa r.2/\V O (WH k I r.1*F) w':=by
 unfold Gk at hm;split at hm
 .cases hm
 rename_i hg;have hg:=Eb (by simpa using hg);obtain⟨H,hH,hm⟩:=bZ.1 hm;dsimp only at hm;split at hm;rotate_left
 .cases hm
 rename_i hz;obtain⟨S1,hT,rfl⟩:=dd.1 hm;obtain⟨P,hI,h⟩:=WH.aK h;apply aaz;refine aG h λk1 w1 h1=>aG h1 λk2 w2 h2=> ?_;have h2:V O (WO P k S*(ab k1 (fv lk) 139*(ab k2 (gA bm) 30*F))) w2.drew:=h2.drew.p1.p2;obtain⟨κ,Q,Y,h3,gd,h0,hQ,bt⟩:=WO.rW hH h2;obtain⟨ho,h4⟩:=ji.aK (HO.SU h3);refine aq<|aN (WO.cell (i:=0) h2 rfl)<|WO.lj h2 gd h0<|aq<|bh (HO.cell h3 (i:=2) rfl)<|bz h2.p1 rfl<|bz h2.p2 (iO hg.1) ⟨rfl,iO hg.1,?_⟩;have ec:((#[]++fv lk)++gA bm)++#[aH 1]=(Rf.bP ⟨lk,bm,1⟩).toArray:=by apply cT;simp[fv,gA,Rf.bP,Rf.Sc hg.1]
 rw[ec];refine ay (Rf.tD h4 ho) ?_;rintro _ w3 ⟨rfl,h5⟩;have h6:=WH.aI hI (bt _ _ _ hQ (HO.SV _ (ji.aI (bx.put ho _) h5)));refine⟨_,_,rfl,aw (by simp[hz])<|ay (x6 (t:=⟨1,(put H.fi ⟨lk,bm,1⟩).2.1,0,0,0,0⟩) hT h6) ?_⟩;rintro _ w4 ⟨rfl,h7⟩;exact⟨rfl,rfl,h7.p1.right.p1.right⟩
theorem Tj {aj:Int} {x:OR} {r:WS×Int} (hm:Be S aj x=some r) (h:V O (WH k I S*F) w):ae 202 #[al k,aa aj,an (bF x.1)] w λv w'=>v=aa r.2/\V O (WH k I r.1*F) w':=by
 unfold Be at hm;obtain⟨H,hH,hm⟩:=bZ.1 hm;split at hm
 .cases hm
 rename_i hc;dsimp only at hm;split at hm
 .cases hm
 rename_i hz;have hz:(put H.dA ⟨x.1.ox,x.1.dy,1,[x]⟩).2.2=0:=by simpa using hz
 have c1:aj<=15:=by omega
 have c2:x.1.fl=0:=by
  rcases vt (x.1.fl=0) with q|q
  .exact q
  .exact absurd (.inr (.inl q)) hc
 have c3:y9 x.1.fl x.1.rf=true:=by
  cases q:y9 x.1.fl x.1.rf with
  |true=>rfl
  |false=>exact absurd (.inr (.inr (.inl q))) hc
 have c4:(H.dA.sp.any λu=>decide (u.st=1)&&(decide (u.x.ox=x.1.ox)&&decide (u.x.od=x.1.dy)))=false:=by
  cases q:(H.dA.sp.any λu=>decide (u.st=1)&&(decide (u.x.ox=x.1.ox)&&decide (u.x.od=x.1.dy))) with
  |false=>rfl
  |true=>exact absurd (.inr (.inr (.inr q))) hc
 apply aaA;refine aG h λk1 w1 h1=>bz h1 (dq x.2)<|ay (K:=λv w'=>v=ak #[ah (put H.dA ⟨x.1.ox,x.1.dy,1,[x]⟩).2.1,aa 0]/\(0<=(put H.dA ⟨x.1.ox,x.1.dy,1,[x]⟩).2.1/\(put H.dA ⟨x.1.ox,x.1.dy,1,[x]⟩).2.1<=18446744073709551615)/\V O (ab k1 (bF x.1) 164*(WH k I (bV S aj {H with dA:=(put H.dA ⟨x.1.ox,x.1.dy,1,[x]⟩).1})*F)) w') ?_ ?_
 .obtain⟨P,hI,h2⟩:=WH.aK h1.p1;apply aaG;refine aG h2 λk3 w2 h3=> ?_;obtain⟨κ,Q,Y,h4,gd,h0,hQ,bt⟩:=WO.rW hH h3.p1;refine aq<|aN (WO.cell (i:=0) h3.p1 rfl)<|WO.lj h3.p1 gd h0<|aq<|bh (HO.cell h4 (i:=4) rfl)<|bz h3 (dq x.2)<|ay (aeY c2 c3 c4 hz (HO.BO h4)) ?_;rintro _ w3 ⟨rfl,h5⟩;have h6:=WH.aI hI (bt _ _ _ hQ (HO.D9 _ h5));obtain⟨a,PP,h7⟩:=eE.aK (HO.BO h4);have Tk:=PO.ok h7;have hr:=ni (bx.put Tk ⟨x.1.ox,x.1.dy,1,[x]⟩) (qx Tk hz _|>.trans (if_pos rfl));exact⟨_,_,rfl,aw rfl<|aw rfl ⟨rfl,⟨by omega,hr.2⟩,h6.p1.right.p1⟩⟩
 rintro _ w2 ⟨rfl,hr,h2⟩;have h2:=h2.drew;have hi:(bF x.1).extract 20 (20+16)=gA (jZ x):=Dy x;refine⟨_,_,rfl,aw rfl<|ff h2 (by rw[dq x.2];decide) ?_⟩;rw[hi];refine ay (ajk (BR hH) c1 hr.1 hr.2 h2) ?_;rintro _ w3 ⟨rfl,h3⟩;have bw:=Fx (o:=20) (vs:=gA (jZ x)) (X:=ae 198 #[al k,aa aj,an (fv (J6 aj (put H.dA ⟨x.1.ox,x.1.dy,1,[x]⟩).2.1)),an (gA (jZ x))] w3 λv w'=>bp .i64 v λfh=>aa fh=aa r.2/\V O (WH k I r.1*F) w') h3 (λi uB=> ?_) ?_
 .exact nI bw
 .have am5:i<16:=by rw[iO (GD x).1] at uB;exact uB
  rw[<-hi,ED,if_pos (by rw[dq x.2];simp;omega)]
 .refine ay (Ti hm h3.p1) ?_;rintro _ w4 ⟨rfl,h4⟩;exact bI ⟨rfl,h4.p1.right⟩
end
theorem rX {S:WS} {aj:Int} {H:dr} (hH:ch S aj=some H):bV S aj H=S:=by
 unfold ch at hH;split at hH
 .cases hH
 .obtain⟨_,e⟩:=ct.1 hH;have:S.bQ.set aj.toNat H=S.bQ:=by rw[<-e,EE]
  show({S with bQ:=S.bQ.set aj.toNat H}:WS)=S;rw[this]
theorem sR {S:WS} {aj:Int} {H H':dr} (hH:ch S aj=some H):ch (bV S aj H') aj=some H':=by
 unfold ch at hH ⊢;split at hH
 .cases hH
 .rename_i h0;have aQ:=(ct.1 hH).1;rw[if_neg h0];show(S.bQ.set aj.toNat H')[aj.toNat]?=_;simp[aQ]
theorem BS (a b:Int):lk [(a,b)]=λx=>if x=a then some b else none:=by
 funext x;by_cases e:x=a
 .subst e;simp[lk]
 .simp[lk,e,List.lookup_cons,show(x==a)=false by simpa using e]
theorem mj {P:WP} {I:WI} (h:P.im=I):P.bw=I.bw:=congrArg WI.bw h
section
variable {O w:ao} {F:HP} {k:Nat} {S:WS} {P:WP} {I:WI}
theorem WO.ca {aj:Int} {H:dr} {κ:eA} (hH:ch S aj=some H) (bB:P.bw[aj.toNat]?=some κ) (h:V O (WO P k S*F) w):∃Y,w.cell? ((aD κ.kh).add 3)=some (al κ.ks)/\V O (dD κ.ks aj H.ca*Y) w/\ ∀s w',V O (dD κ.ks aj s*Y) w'->V O (WO P k (bV S aj {H with ca:=s})*F) w':=by obtain⟨qL,Q,Y,h1,gd,h0,hQ,bt⟩:=WO.rW hH h;rw[bB] at gd;cases gd;have e:Q.ks=κ.ks:=congrArg eA.ks hQ;have h2:=HO.zC h1;have h3:=HO.cell h1 (i:=3) (v:=al Q.ks) rfl;rw[e] at h2 h3;exact⟨_,h3,h2,λs w' hs=>bt _ _ _ hQ (HO.zD _ (by rw[e];exact hs))⟩
theorem WO.Hy {aj:Int} {H:dr} {κ:eA} (hH:ch S aj=some H) (bB:P.bw[aj.toNat]?=some κ) (h:V O (WO P k S*F) w):∃Y,w.cell? ((aD κ.kh).add 5)=some (al κ.kl)/\V O (jB κ.kl κ.rl H.bX H.gU*Y) w/\ ∀n l w',V O (jB κ.kl κ.rl n l*Y) w'->V O (WO P k (bV S aj {H with bX:=n,gU:=l})*F) w':=by obtain⟨qL,Q,Y,h1,gd,h0,hQ,bt⟩:=WO.rW hH h;rw[bB] at gd;cases gd;have e:Q.kl=κ.kl:=congrArg eA.kl hQ;have e2:Q.rl=κ.rl:=congrArg eA.rl hQ;have h2:=HO.SW h1;have h3:=HO.cell h1 (i:=5) (v:=al Q.kl) rfl;rw[e,e2] at h2;rw[e] at h3;exact⟨_,h3,h2,λn l w' hs=>bt _ _ _ hQ (HO.SX _ _ (by rw[e,e2];exact hs))⟩
theorem Tl {aj t:Int} {H:dr} {κ:eA} (hH:ch S aj=some H) (bB:P.bw[aj.toNat]?=some κ) (h:V O (WO P k S*F) w):ae 167 #[al κ.ks,ah t] w λv w'=>v=aC (j1 H.ca t)/\V O (WO P k S*F) w':=by obtain⟨Y,_,h1,bt⟩:=WO.ca hH bB h;refine ay (S9 h1) ?_;rintro _ w' ⟨rfl,h2⟩;have:=bt _ _ h2;rw[rX (H:={H with ca:=H.ca}) hH] at this;exact⟨rfl,this⟩
theorem jB.aK {b r:Nat} {n:Int} {l:List (Int×Int)} (h:V O (jB b r n l*F) w):(l.length<=1/\(0<=n/\n<=1000001)/\∀p∈l,0<=p.2/\p.2<=1000001)/\V O (dK b r 4 n (lk l)*F) w:=by have h:=h.a;exact⟨h.bM,h.right⟩
theorem jB.aI {b r:Nat} {n:Int} {l:List (Int×Int)} (hp:l.length<=1/\(0<=n/\n<=1000001)/\∀p∈l,0<=p.2/\p.2<=1000001) (h:V O (dK b r 4 n (lk l)*F) w):V O (jB b r n l*F) w:=(V.eL hp h).g1
theorem Tm {aj key:Int} {H H':dr} {κ:eA} (hH:ch S aj=some H) (bB:P.bw[aj.toNat]?=some κ) (hj:Gh H key=some H') (h:V O (WO P k S*F) w):ae 201 #[al κ.kl,ah key] w λv w'=>(∃b,v=aC b)/\V O (WO P k (bV S aj H')*F) w':=by
 obtain⟨Y,_,h1,bt⟩:=WO.Hy hH bB h;obtain⟨⟨hl,hn,hr⟩,h2⟩:=jB.aK h1;have main:H'={H with gU:=[(key,H.bX)]}/\fg (lk H.gU) key (some H.bX)=lk [(key,H.bX)]:=by
  unfold Gh at hj;split at hj
  .rename_i e;cases hj;refine⟨rfl,?_⟩;rw[e,BS];funext x;simp[fg,lk]
  .rename_i p e;split at hj
   .rename_i e2;cases hj;refine⟨rfl,?_⟩;obtain⟨a,b⟩:=p;have e2:a=key:=e2;rw[e,BS,BS,e2];funext x;by_cases q:x=key<;>simp[fg,q]
   .cases hj
  .cases hj
 refine ay (adm (key:=key) h2) ?_;rintro _ w' ⟨rfl,h3⟩;rw[main.2] at h3;rw[main.1];exact⟨⟨_,rfl⟩,bt H.bX [(key,H.bX)] _ (jB.aI ⟨by simp,hn,by simpa using hn⟩ h3)⟩
theorem Mr {x:LK} {r:WS×Int} (hm:xB S x=some r):r.1.bQ=S.bQ:=by
 unfold xB at hm;split at hm
 .cases hm
 dsimp only at hm;split at hm
 .cases hm;rfl
 split at hm
 .cases hm
 .cases hm;rfl
theorem x8 {T:WS} {aj:Int} (e:T.bQ=S.bQ):ch T aj=ch S aj:=by unfold ch;rw[e]
theorem WO.pR {aj:Int} {H:dr} (hH:ch S aj=some H) (h:V O (WO P k S*F) w):∃κ,P.bw[aj.toNat]?=some κ/\0<=aj:=by obtain⟨κ,_,_,_,h1,h2,_⟩:=WO.rW hH h;exact⟨κ,h1,h2⟩
theorem Ms {fr t fl rf db:Int} {bm:aJ} {r:WS×OR} (hm:Bb S fr t bm fl rf db=some r) (h:V O (WH k I S*F) w): ae 204 #[al k,aa fr,ah t,an (gA bm),aH fl,aH rf,ah db] w λv w'=>v=ak #[an (bF r.2.1),aa 0]/\V O (WH k I r.1*F) w':=by
 unfold Bb at hm;split at hm
 .cases hm
 rename_i hg;have hg:=Eb (by simpa using hg);obtain⟨H,hH,hm⟩:=bZ.1 hm;dsimp only at hm;obtain⟨S1,fW,hm⟩:=bZ.1 hm;obtain⟨H1,kE,hm⟩:=bZ.1 hm;obtain⟨q,hq,hm⟩:=bZ.1 hm;split at hm
 .cases hm
 rename_i ajl;obtain⟨H2,lR,rfl⟩:=dd.1 hm;obtain⟨P,hI,h⟩:=WH.aK h;obtain⟨κ,bB,h0⟩:=WO.pR hH h;have zF:I.bw[fr.toNat]?=some κ:=by rw[<-mj hI];exact bB
 apply aaB;refine aG h λk1 w1 h1=>aG h1 λk2 w2 h2=> ?_;obtain⟨Z,hZ,h2⟩:∃Z:aM,Z.size=36/\V O (WO P k S*(ab k2 Z 164*(ab k1 (gA bm) 30*F))) w2:=⟨_,rfl,h2.p2⟩;obtain⟨Y,m4,_,_⟩:=WO.ca hH bB h2;refine aq<|aN (WO.cell (i:=0) h2 rfl)<|WO.lj h2 bB h0<|aq<|bh m4<|ay (Tl hH bB h2) ?_;rintro _ w3 ⟨rfl,h3⟩;refine cR ⟨λw'=>V O (WH k I S1*(ab k2 Z 164*(ab k1 (gA bm) 30*F))) w',?_,?_⟩
 .split at fW
  .rename_i hb;obtain⟨hr,L5,fW⟩:=bZ.1 fW;split at fW;rotate_left
   .cases fW
   rename_i hz;cases fW;refine aW (by rw[hb.1];rfl)<|aW (by simpa using hb.2)<|ay (Mk (x:=(1,t)) L5 (WH.aI hI h3)) ?_;rintro _ w4 ⟨rfl,h4⟩;exact bI<|aw (by simp[hz]) h4
  .rename_i hb;cases fW;cases hh:j1 H.ca t with
   |true=>exact aw rfl (WH.aI hI h3)
   |false=>have iQ:fl=2:=iA.1 λq=>hb ⟨hh,q⟩;exact aW rfl<|aw (by simp[iQ]) (WH.aI hI h3)
 rintro u w6 h6;obtain⟨P1,Mt,h6⟩:=WH.aK h6;have Ed:P1.bw[fr.toNat]?=some κ:=by rw[mj Mt];exact zF
 obtain⟨Y1,_,h7,bt⟩:=WO.ca kE Ed h6;have JW:Gg H1.ca fr t bm fl rf db=some (q.1,q.2):=hq;refine bz h6.p2 (iO hg.1)<|ay (aeA hg h7 JW) ?_;rintro _ w7 ⟨rfl,h8⟩;have h9:=bt _ _ h8;refine⟨_,_,rfl,aG h9 λMu w8 aV=>bL aV (dq jW.2) (dq q.2.2) (by simpa[cS] using mR q.2) λw9 bu=> ?_⟩;have BT:=sR (H':={H1 with ca:=q.1}) kE;refine⟨λw'=>V O (WO P1 k (bV S1 fr {H1 with ca:=q.1})*(ab Mu (bF q.2.1) 164*(ab k2 Z 164*(ab k1 (gA bm) 30*F)))) w',?_,?_⟩
 .cases hh:j1 H.ca t with
  |true=>exact aw rfl bu.p1
  |false=>refine aW rfl<|ay (Tl BT Ed bu.p1) ?_;rintro _ dn ⟨rfl,bA⟩;have vg:j1 q.1 t=(fl !=2):=iA.1 λz=>ajl ⟨hh,z⟩;refine cR<|aw ?_ bA;show(!(j1 q.1 t==(fl !=2)))=false;rw[vg];simp
 rintro u fF bA;have vV:∀{w':ao} {S5:WS} {H5:dr},ch S5 fr=some H5->∀{G:HP},V O (WO P1 k S5*G) w'->w'.cell? ((aD κ.kh).add 5)=some (al κ.kl):=λ{_ _ _} zE {_} hs=>by obtain⟨_,hc,_⟩:=WO.Hy zE Ed hs;exact hc
 refine aW rfl ?_;split at lR
 .rename_i aQ;refine aW (by simpa using aQ)<|aq<|aN (WO.cell (i:=0) bA rfl)<|WO.lj bA Ed h0<|aq<|bh (vV BT bA)<|ay (Tm BT Ed lR bA) ?_;rintro _ fZ ⟨⟨b,rfl⟩,bN⟩;refine cR<|bz bN.p1 (dq q.2.2)<|bL bN.p2 hZ (dq q.2.2) (by simpa[cS] using mR q.2) λdH bY=>bz bY (dq q.2.2) ⟨rfl,?_⟩;have e:bV (bV S1 fr {H1 with ca:=q.1}) fr H2=bV S1 fr H2:=by simp[bV]
  rw[e] at bY;exact(WH.aI Mt (bY.p1)).p1.right.p1.right.p1.right
 .rename_i bW;cases lR;refine aw (by simpa using bW)<|bz bA.p1 (dq q.2.2)<|bL bA.p2 hZ (dq q.2.2) (by simpa[cS] using mR q.2) λdH bY=>bz bY (dq q.2.2) ⟨rfl,?_⟩;exact(WH.aI Mt (bY.p1)).p1.right.p1.right.p1.right
end
theorem Tn {r:kX} (h:r.bm.length=16):(Rf.bP r).toArray[0]?=some (aa r.lk.1)/\(Rf.bP r).toArray[1]?=some (ah r.lk.2)/\(Rf.bP r).toArray.extract 2 (2+16)=gA r.bm/\(Rf.bP r).toArray.extract 0 (0+2)=fv r.lk:=by
 refine⟨rfl,rfl,?_,?_⟩
 .apply cT;have hl:(bc r.bm).length=16:=by rw[dh,h]
  simp[Rf.bP,Rf.Sc h,gA,wI,hl]
 .apply cT;simp[Rf.bP,fv]
theorem ajm {S:WS} {fr t fl rf db:Int} {bm:aJ} {r:WS×OR} (hm:Bb S fr t bm fl rf db=some r):mV bm:=by
 unfold Bb at hm;split at hm
 .cases hm
 rename_i hg;exact Eb (by simpa using hg)
section
variable {O w:ao} {F:HP} {k:Nat} {S:WS} {P:WP} {I:WI}
theorem To {aj fl:Int} {x:kX} {r:WS×OR} (hm:Gq S aj x fl=some r) (h:V O (WH k I S*F) w):ae 213 #[al k,aa aj,an (Rf.bP x).toArray,aH fl] w λv w'=>v=ak #[an (bF r.2.1),aa 0]/\V O (WH k I r.1*F) w':=by
 unfold Gq at hm;split at hm
 .cases hm
 rename_i oV;have oV:x.lk.1=1:=iA.1 oV;have hg:=ajm hm;obtain⟨c0,c1,c2,_⟩:=Tn hg.1;apply aaE;refine aG h λk1 w1 h1=>aG h1 λk2 w2 h2=> ?_;obtain⟨Z,hZ,h2⟩:∃Z:aM,Z.size=36/\V O (WH k I S*(ab k2 Z 164*(ab k1 (Rf.bP x).toArray 141*F))) w2:=⟨_,rfl,h2.p2⟩;refine az (n:=x.lk.2) (by rw[jG];exact aB h2.p2 c1) ⟨λa b w'=>a=x.lk.2/\b=aj/\w'=w2,az (n:=x.lk.1) (by rw[jG];exact aB h2.p2 c0)<|aw (by simp[oV]) ⟨rfl,rfl,rfl⟩,?_⟩;rintro u _ _ w5 ⟨rfl,rfl,rfl⟩;have fin:∀{w7:ao},V O (WH k I r.1*(ab k2 Z 164*(ab k1 (Rf.bP x).toArray 141*F))) w7->aS au (aD k2) 36 (bF r.2.1) w7 λw8=>aA (aD k2) 36 w8 λg=>(ak #[an g,aa 0]=ak #[an (bF r.2.1),aa 0]/\V O (WH k I r.1*F) w8):=λh5=>bL h5.p1 hZ (dq r.2.2) (by simpa[cS] using mR r.2) λw8 h6=>bz h6 (dq r.2.2) ⟨rfl,h6.right.p1.right⟩;by_cases e:fl=0
 .refine aW (by simp[e])<|ff h2.p2 (by simp[Rf.dJ]) ?_;rw[c2];rw[if_pos e] at hm;refine ay (Ms hm h2) ?_;rintro _ w6 ⟨rfl,h5⟩;exact⟨_,_,rfl,fin h5⟩
 .refine aw (by simpa using e)<|ff h2.p2 (by simp[Rf.dJ]) ?_;rw[c2];rw[if_neg e] at hm;refine ay (Ms hm h2) ?_;rintro _ w6 ⟨rfl,h5⟩;exact⟨_,_,rfl,fin h5⟩
theorem ajn {y:OR} {H:dr} {s':AS cC} {k1 k2:Nat} {t1 t2:TypeId} (hf:y.1.fl=1) (hH:ch S y.1.ox=some H) (hs:Gx H.ca (ik y)=some s') (h:V O (WO P k S*(ab k2 (bF y.1) t2*(ab k1 #[al k] t1*F))) w): ae 191 #[al k1,al k2] w λv w'=>(∃e,v=aa e)/\V O (WO P k (bV S y.1.ox {H with ca:=s'})*(ab k2 (bF y.1) t2*(ab k1 #[al k] t1*F))) w':=by have h:=h.drew;obtain⟨κ,Q,Y,h1,gd,h0,hQ,bt⟩:=WO.rW hH h;apply aax;refine bh (fS h.p2 rfl)<|aq<|aN (WO.cell (i:=0) h rfl)<|az (n:=y.1.ox) (aB h.p1 (i:=2) rfl)<|WO.lj h gd h0<|aq<|bh (HO.cell h1 (i:=3) rfl)<|ff h.p1 (by rw[dq y.2];decide) ?_;rw[v3];refine az (n:=y.1.fl) (aB h.p1 (i:=0) rfl) ?_;rw[hf];refine ay (aet (uV y) (HO.zC h1) hs) ?_;rintro _ w1 ⟨⟨e,rfl⟩,h2⟩;exact bI ⟨⟨_,rfl⟩,bt _ _ _ hQ (HO.zD _ h2)⟩
theorem Hz {y:OR} {S':WS} (hm:Gj S y=some S') (h:V O (WH k I S*F) w):ae 110 #[al k,an (bF y.1)] w λv w'=>v=aT/\V O (WH k I S'*F) w':=by
 unfold Gj at hm;apply aaf;refine aG h λk1 w1 h1=>aG h1 λk2 w2 h2=>az (n:=y.1.fl) (aB h2 (i:=0) rfl) ?_;split at hm
 .rename_i e;refine aW (by simp[e])<|bh (fS h2.p1 rfl)<|bz h2 (dq y.2)<|ay (aji hm h2.p2) ?_;rintro _ w3 ⟨rfl,h3⟩;exact⟨rfl,rfl,h3.p1.right.p1.right⟩
 .rename_i e;obtain⟨P,hI,h3⟩:=WH.aK h2.p2;obtain⟨t1,t2,h3⟩:∃t1 t2,V O (WO P k S*(ab k2 (bF y.1) t2*(ab k1 #[al k] t1*F))) w2:=⟨_,_,h3⟩;unfold Qs at hm;split at hm
  .cases hm
  rename_i H hH;refine aw (by simpa using e)<|bh (fS h3.p2 rfl)<|az (n:=y.1.ox) (aB h3.p1 (i:=2) rfl)<|ff h3.p1 (by rw[dq y.2];decide) ?_;rw[v3];refine ay (Mp (S':=S') (uV y) (BR hH) hH ?_ hI h3) ?_
  .split at hm
   .rename_i hf;cases hm;exact .inl ⟨hf,rfl⟩
   .rename_i hn x hf;split at hm;rotate_left
    .cases hm
    rename_i iQ;split at hm
    .cases hm
    rename_i ht;refine .inr ⟨hn,x,lJ H.ca hn {x with t1:=x.t1- 1},hf,hm,λG w1 h4=>Bt Tryz.func191 rfl<|ay (ajn (F:=G*F) (s':=lJ H.ca hn {x with t1:=x.t1- 1}) iQ hH (by rw[Gx,hf];simp[ht]) (h4.aF (by ac_rfl))) ?_⟩;rintro v w2 ⟨he,h5⟩;exact⟨he,h5.p3.p1⟩
  .rintro _ w4 ⟨⟨e,rfl⟩,h4⟩;exact bI ⟨rfl,h4.p1.right.p1.right⟩
end
section
variable {O w:ao} {F:HP} {k:Nat} {S:WS} {P:WP} {I:WI}
theorem Mv {c:jz} {j:Int} (h0:0<=j) (hj:jP[j.toNat]?=some c) (h:V O (WO P k S*F) w):ae 195 #[al P.eV,aa 0,aa j] w λv w'=>∃(y:cL) (H:HP),v=ak #[an (dN y).toArray,aa 0]/\y.x=c/\oe H y/\V O (WO P k S*(H*F)) w':=by obtain⟨hp,h1⟩:=gH.aK (WO.zA h);refine ay (agR Ho h0 hj h1) ?_;rintro _ w' ⟨y,H,rfl,hy,hG,h2⟩;refine⟨y,H,rfl,hy,hG,?_⟩;have h3:V O (dU P.eV jP 1 ⟨S.ld,S.c0,S.c2,S.cK⟩*(bT P k S*(wA P k S*(H*F)))) w':=h2.p3.p3.p3;exact WO.wD S.ld S.c0 S.c2 S.cK (gH.aI hp h3)
theorem ajo {h:Int} (hs:V O (WH k I S*F) w):ae 207 #[al k,ah h] w λv w'=>∃(y:cL) (H:HP),v=an (dN y).toArray/\y.x=wz/\oe H y/\V O (WH k I S*(H*F)) w':=by
 obtain⟨P,hI,hs⟩:=WH.aK hs;apply aaC;refine aG hs λk1 w1 h1=> ?_;obtain⟨Z,hZ,h1⟩:∃Z:aM,Z.size=19/\V O (ab k1 Z 66*(WO P k S*F)) w1:=⟨_,rfl,h1⟩;refine aq<|kK (WO.cell (i:=2) h1.p1 rfl)<|xj Ea (x:=h) (WO.D5 h1.p1) trivial (Ml w1) ?_;have wY:∀{w5:ao} {y:cL} {G:HP} {K:aM->ao->Prop},V O (ab k1 Z 66*G) w5->(∀w7,V O G w7->K (dN y).toArray w7)->aS au (aD k1) 19 (dN y).toArray w5 λw7=>aA (aD k1) 19 w7 λg16=>K g16 w7:=λh5 hK=>bL h5 hZ (by simp[fT]) (by simpa using sL _) λw7 h6=>bz h6 (by simp[fT]) (hK w7 h6.right);cases hk:tQ S.eM h;all_goals
  refine nI<|aG h1 λk6 w2 h2=>bL h2 rfl rfl (by simp[Value.oneCell']) λw3 h3=> ?_;have h3:=h3.drew;have hd:=h3.p2;refine aq<|bh (WO.cell (i:=7) hd rfl)<|az (n:=0) (aB h3 (i:=1) rfl)<|az (n:=0) (aB h3 (i:=2) rfl) ⟨?_,?_⟩
  .refine ay (Mv (c:=wz) (by decide) rfl hd) ?_;rintro _ w4 ⟨y,H,rfl,hy,hG,h4⟩;refine⟨_,_,rfl,aG h4 λrO w5 h5=>bL h5 rfl (by simp[fT]) (by simpa using sL y) λw6 h6=>bz h6 (by simp[fT]) ?_⟩;refine wY (y:=y) (h6.p2.p2.p4) λw7 h7=>⟨y,H,rfl,hy,hG,WH.aI hI ?_⟩;exact(h7.p3.p3.g1).right
  .refine aG h3 λrG w8 h8=>ay (Mv (c:=wz) (by decide) rfl h8.p3) ?_;rintro _ w4 ⟨y,H,rfl,hy,hG,h4⟩;refine⟨_,_,rfl,bL (h4.p2) rfl (by simp[fT]) (by simpa using sL y) λw6 h6=>bz h6 (by simp[fT]) ?_⟩;refine wY (y:=y) (h6.p2.p2.p4) λw7 h7=>⟨y,H,rfl,hy,hG,WH.aI hI ?_⟩;exact(h7.p3.p3.g1).right
end
theorem ajq {m:Int} {c:List ig} (h:Kd m=some c):0<=m/\wz.ey[m.toNat]?=some c/\(1<=c.length/\c.length<=32)/\∃x,rN 8 c 0 0=some x:=by
 unfold Kd at h;split at h
 .rename_i e;cases h;subst e;exact⟨by decide,rfl,by decide,_,rfl⟩
 split at h
 .rename_i e;cases h;subst e;exact⟨by decide,rfl,by decide,_,rfl⟩
 .cases h
section
variable {O w:ao} {F:HP} {k:Nat} {S:WS} {P:WP} {I:WI}
theorem ajr (h m n:Int) (kg:Nat) (arg:LK) (l:List ig):((((((((((((#[]++#[ah h])++#[aa 0])++#[aa m])++#[aa n])++#[al kg])++fv arg)++#[ah 0])++#[aC false])++#[aa 0])++#[aa 0])++iC)++#[ah 0])=cP {qC with ob:=h,mt:=m,n:=n,fr:=some ⟨l,n,0,[]⟩,arg:=arg} (some kg) cH:=by apply cT;simp[cP,fv,gB,cH,jI,mv,dX,dW,bc,qC,List.replicate]
theorem ajs {vR kg:Nat} {f:eX} {g:pE} {A:aM} (hA:cP {f with fr:=some g} (some kg) cH=A) (hI:P.im=I) (hb:f.bk=dX) (h:V O (ab vR A 284*(mX kg g*(WO P k S*F))) w):V O (WH k I S*(gE vR {f with fr:=some g}*F)) w:=by subst hA;have bu:V O (gE vR {f with fr:=some g}*(WO P k S*F)) w:=V.bO (some kg) (V.bO cH ((V.eL (show cH.y=f.bk by rw[hb];rfl) (h.g1)).g1));exact WH.aI hI bu.p1
theorem Tp {h m n:Int} {arg:LK} {r:WS×Option eX×Int} (hm:Bf S h m n arg=some r) (hs:V O (WH k I S*F) w): ae 176 #[al k,ah h,aa m,aa n,an (fv arg)] w λv w'=>(r.2.1=none/\r.2.2≠0/\v=ak #[ag none,aa r.2.2]/\V O (WH k I r.1*F) w')\/ ∃f kf,r.2.1=some f/\v=ak #[al kf,aa 0]/\V O (WH k I r.1*(gE kf f*F)) w':=by
 unfold Bf at hm;obtain⟨c,hc,hm⟩:=bZ.1 hm;obtain⟨r1,fA,hm⟩:=bZ.1 hm;obtain⟨m0,Tq,⟨l1,l2⟩,wx,hw⟩:=ajq hc;apply aas;refine aG hs λk1 w1 h1=>ay (ajo h1.p1) ?_;rintro _ w2 ⟨y,G,rfl,hy,hG,h2⟩;have hG2:oe (WH k I S*(G*(ab k1 (fv arg) 139*F))) y:=hG.left.right;obtain⟨M,hM,hMl⟩:∃M,y.ms[m.toNat]?=some M/\M.l=c:=by
  have e:y.ms.map (·.l)=wz.ey:=by rw[<-hy];rfl
  rw[<-e,eZ,dd] at Tq;exact Tq
 subst hMl;refine nI<|ay (afA hG2 m0 hM (by omega) h2) ?_;rintro _ w3 ⟨q,d,rfl,h3⟩;refine⟨_,_,_,_,rfl,aw rfl<|ay (afp h3 (bd.left bd.own) l1 l2 hw) ?_⟩;rintro _ w4 ⟨kg,rfl,h4⟩;have h5:V O (WH k I S*(mX kg ⟨M.l,n,0,[]⟩*(ab k1 (fv arg) 139*F))) w4:=(h4.p2.p3.p3.g1).right;refine⟨_,_,rfl,aw rfl<|ay (Mk (x:=(1,h)) fA h5) ?_⟩;rintro _ w5 ⟨rfl,h6⟩;refine bI ?_;split at hm
 .rename_i e;cases hm;exact aW (by simpa using e) (.inl ⟨rfl,e,rfl,h6.p1.right.p1.right⟩)
 rename_i e;have e:r1.2=0:=iA.1 e;obtain⟨r2,fp,hm⟩:=bZ.1 hm;split at hm
 .cases hm
 rename_i e2;have e2:r2.2=0:=iA.1 e2;obtain⟨S3,oX,rfl⟩:=dd.1 hm;refine aw (by simp[e])<|bz h6.p2 rfl<|ay (Mk fp h6) ?_;rintro _ w6 ⟨rfl,h7⟩;refine bI<|aw (by simp[e2]) ?_;obtain⟨P,hI,h7⟩:=WH.aK h7;refine aq<|kK (WO.cell (i:=2) h7 rfl)<|xj Ea (x:=h) (WO.D5 h7) trivial (Ml w6) ?_;cases hk:tQ r2.1.eM h;all_goals
  refine nI<|abj (n:=0) rfl<|aq<|bh (WO.cell (i:=7) h7 rfl)<|ay (Hv oX h7) ?_;rintro _ w7 ⟨rfl,h8⟩;refine bI<|bz h8.p2 rfl ⟨rfl,aG h8 λvR w8 h9=>.inr ⟨_,vR,rfl,rfl,?_⟩⟩;rw[ajr] at h9;generalize hA:cP {qC with ob:=h,mt:=m,n:=n,fr:=some ⟨M.l,n,0,[]⟩,arg:=arg} (some kg) cH=A at h9;have aV:V O (ab vR A 284*(mX kg ⟨M.l,n,0,[]⟩*(WO P k S3*F))) w8:=(h9.p2.p1.p3).right;exact ajs (f:={qC with ob:=h,mt:=m,n:=n,arg:=arg}) hA hI rfl aV
end
section
variable {O w:ao} {F:HP} {k:Nat} {S:WS} {P:WP} {I:WI}
theorem Tr (f:eX) (kg:Option Nat) (e:QE):(cP f kg e).extract 5 (5+2)=fv f.arg:=by apply cT;simp[cP,fv]
theorem Ee (f:eX) (kg:Option Nat) (e:QE):(cP f kg e).size=37:=by have:=qF e;simp[cP,this]
theorem QX {f:eX} {kf:Nat} {kg:Option Nat} {e:QE} {S':WS} {t:TypeId} (iv:f.md=0) (hm:Ke S f=some S') (h:V O (WH k I S*(ab kf (cP f kg e) t*F)) w): ae 183 #[al k,al kf] w λv w'=>v=aT/\V O (WH k I S'*(ab kf (cP f kg e) t*F)) w':=by
 unfold Ke at hm;apply aav;refine aq<|az (n:=f.ob) (aB h.p1 (i:=0) rfl) ?_;split at hm
 .rename_i e0;cases hm;exact aW (by simp[e0]) ⟨rfl,h⟩
 rename_i e0;obtain⟨S1,fW,hm⟩:=bZ.1 hm;obtain⟨S2,gu,hm⟩:=bZ.1 hm;obtain⟨P,hI,h⟩:=WH.aK h;have h:=h.drew;have AZ:(cP f kg e)[1]?=some (aa f.md):=rfl;rw[iv] at AZ;refine aw (by simpa using e0)<|aq<|bh (WO.cell (i:=7) h rfl)<|aq<|az (n:=0) (aB h.p1 (i:=1) AZ)<|ay (Hv fW h) ?_;rintro _ w1 ⟨rfl,h1⟩;refine bI<|aq<|ff h1.p1 (by rw[Ee];decide) ?_;rw[Tr];refine ay (BP gu (WH.aI hI h1)) ?_;rintro _ w2 ⟨rfl,h2⟩;refine⟨rfl,aq<|az (n:=f.ob) (aB h2.p1 (i:=0) rfl)<|ay (BP (x:=(1,f.ob)) hm h2) ?_⟩;rintro _ w3 ⟨rfl,h3⟩;exact⟨rfl,rfl,h3⟩
end
section
variable {O w:ao} {F:HP} {k:Nat} {S:WS} {P:WP} {I:WI}
theorem WO.lE {aj:Int} {H:dr} (hH:ch S aj=some H) (h:V O (WO P k S*F) w):0<=aj/\aj<=9223372036854775807:=by
 have h0:=BR hH;refine⟨h0,?_⟩;have aQ:aj.toNat<S.bQ.length:=by
  unfold ch at hH;split at hH
  .cases hH
  .exact(ct.1 hH).1
 have eB:=WO.eB h;have h4:=h.aF (B:=bT P k S*(dO 0 P.bw S.bQ*iX P k S*F)) (by rw[WO.bQ];ac_rfl);have h5:=(bT.aK h4).2.right.left;rcases h5.po.2 with⟨_,e⟩|⟨g',cap,cur,e,_,_,q1,q2,_⟩
 .omega
 .simp only[maxLen] at q2;omega
theorem Ts {aj:Int} {x:OR} {r:WS×Int} (hm:Be S aj x=some r):0<=aj/\aj<=15:=by
 unfold Be at hm;obtain⟨H,hH,hm⟩:=bZ.1 hm;split at hm
 .cases hm
 rename_i hc;exact⟨BR hH,by omega⟩
theorem Mw {fr:Int} {H:dr} {κ:eA} {g:aJ} (hg:mV g) (hH:ch S fr=some H) (bB:P.bw[fr.toNat]?=some κ) (h:V O (WO P k S*F) w):ae 175 #[al κ.ks,an (gA g)] w λv w'=>v=xF H.ca g/\(∀q,ki H.ca g=some q->rL q.2)/\V O (WO P k S*F) w':=by obtain⟨Y,_,h1,bt⟩:=WO.ca hH bB h;refine ay (QC hg h1) ?_;rintro _ w' ⟨rfl,h2⟩;have:=bt _ _ h2;rw[rX (H:={H with ca:=H.ca}) hH] at this;exact⟨rfl,λq hq=>Ta h2 hq,this⟩
theorem Tt {aj:Int} {x:OR} {r:WS×Int} (hm:Ka S aj x=some r) (h:V O (WH k I S*F) w):ae 117 #[al k,aa aj,an (bF x.1)] w λv w'=>v=aa r.2/\V O (WH k I r.1*F) w':=by
 unfold Ka at hm;obtain⟨H,hH,hm⟩:=bZ.1 hm;split at hm
 .cases hm
 rename_i hn s hf;split at hm
 .cases hm
 rename_i cp;obtain⟨q,hq,hm⟩:=bZ.1 hm;obtain⟨a0,a15⟩:=Ts hm;obtain⟨P,hI,h⟩:=WH.aK h;obtain⟨b0,b1⟩:=WO.lE hH h;obtain⟨κ,bB,_⟩:=WO.pR hH h;apply aai;refine aG h λk1 w1 h1=> ?_;have h1:V O (WO P k S*(ab k1 (bF x.1) 164*F)) w1.drew:=h1.drew.p1;obtain⟨Y,m4,_,_⟩:=WO.ca hH bB h1;refine aq<|aN (WO.cell (i:=0) h1 rfl)<|az (n:=x.1.ox) (aB h1.p1 (i:=2) rfl)<|WO.lj h1 bB b0<|aq<|bh m4<|ff h1.p1 (by rw[dq x.2];decide) ?_;rw[v3];refine ay (Mw (uV x) hH bB h1) ?_;rintro _ w2 ⟨rfl,dk,h2⟩;have hs:=dk _ hf;unfold xF;rw[hf];refine⟨_,_,_,rfl,aG h2 λrO w3 h3=>bL h3 rfl (iO hs.bm.1) (λu hu=>jt _ u (by simpa[gA] using hu)) λw4 h4=>aw rfl ?_⟩;have h5:V O (ab k1 (bF x.1) 164*(WO P k S*F)) w4:=h4.right.p1;refine az (n:=x.1.ox) (aB h5 (i:=2) rfl)<|aY (by omega) b1<|aw (by simpa using cp)<|az (n:=x.1.ox) (aB h5 (i:=2) rfl)<|aY (by omega) b1<|ff h5 (by rw[dq x.2];decide) ?_;rw[Dy];refine fx a0 (by omega)<|ay (Ms hq (WH.aI hI h5.p1)) ?_;rintro _ w5 ⟨rfl,h6⟩;refine⟨_,_,rfl,aG h6 λk32 w6 h7=>bL h7 (dq jW.2) (dq q.2.2) (by simpa[cS] using mR q.2) λw7 h8=>aw rfl<|bz h8 (dq q.2.2)<|ay (Tj hm h8.p1) ?_⟩;rintro _ w8 ⟨rfl,h9⟩;exact bI ⟨rfl,h9.p1.right.p1.right⟩
end
section
variable {O w:ao} {F:HP} {k:Nat} {S:WS} {P:WP} {I:WI}
theorem jm.aK {b:Nat} {s:AS tH} (h:V O (jm b s*F) w):bx s/\V O (Lt.Ar b s*F) w:=by have h:=h.a;exact⟨h.bM,h.right⟩
theorem jm.aI {b:Nat} {s:AS tH} (hs:bx s) (h:V O (Lt.Ar b s*F) w):V O (jm b s*F) w:=(V.eL hs h).g1
theorem Ef {hn:Int} (h0:0<=hn) (h1:hn<=18446744073709551615) (h:V O (WO P k S*F) w):ae 115 #[al P.di,ah hn] w λv w'=>v=ak #[an (Lt.bP (cI tJ S.di hn).2.1).toArray,aa (cI tJ S.di hn).2.2]/\V O (WO P k {S with di:=(cI tJ S.di hn).1}*F) w':=by obtain⟨ho,h2⟩:=jm.aK (WO.Hu h);refine ay (Lt.tE h2 ho h0 h1) ?_;rintro _ w' ⟨rfl,h3⟩;exact⟨rfl,WO.Mj _ (jm.aI (bx.cI ho hn) h3)⟩
theorem Mx (l:tH):(Lt.bP l).toArray.extract 0 (0+36)=bF l.x.1:=by apply cT;have:=nO l.x;rw[pV,oZ];show((cS l.x++[aa l.hm]).drop 0).take 36=cS l.x;rw[m9,sU (by omega),eW (by omega)]
theorem Tu {aj hn:Int} {l:tH} {r:WS×Int} (hp:bg S.di hn=some l) (hm:Kb S aj hn l=some r) (h:V O (WH k I S*F) w):ae 114 #[al k,aa aj,ah hn,an (Lt.bP l).toArray] w λv w'=>v=aa r.2/\V O (WH k I r.1*F) w':=by
 unfold Kb at hm;split at hm
 .cases hm
 rename_i iQ;have iQ:l.x.1.fl=0:=iA.1 iQ;obtain⟨H,hH,hm⟩:=bZ.1 hm;split at hm
 .cases hm
 rename_i sh s hf;split at hm
 .cases hm
 rename_i cp;obtain⟨cs,dT,hm⟩:=bZ.1 hm;split at hm;rotate_left
 .cases hm
 rename_i aQ;obtain⟨zG,ajw,hm⟩:=bZ.1 hm;obtain⟨H2,hj,hm⟩:=bZ.1 hm;obtain⟨a0,a15⟩:=Ts hm;have ajx:KF H.ca (ik l.x) 100 aj l.x.1.rf=some (cF H.ca sh {s with cs:=zG}):=by unfold KF;rw[hf,gg];dsimp only;rw[if_neg (λq=>cp (.inr q)),dT,gg,if_pos aQ,ajw];rfl
 obtain⟨P,hI,h⟩:=WH.aK h;obtain⟨b0,b1⟩:=WO.lE hH h;obtain⟨κ,bB,_⟩:=WO.pR hH h;have Tv:0<=hn/\hn<=18446744073709551615:=by obtain⟨ho,_⟩:=jm.aK (WO.Hu h);have:=ni ho hp;omega
 apply aah;refine aG h λk1 w1 h1=>ff h1 (by simp[Lt.dJ]) ?_;rw[Mx];refine aG h1 λk3 w2 h2=>bL h2 (dq jW.2) (dq l.x.2) (by simpa[cS] using mR l.x) λw3 h3=> ?_;have h3:V O (ab k3 (bF l.x.1) 164*(WO P k S*F)) w3:=(h3.p1).right;refine az (n:=l.x.1.fl) (aB h3 (i:=0) rfl)<|aw (by simp[iQ]) ?_;have h4:V O (WO P k S*(ab k3 (bF l.x.1) 164*F)) w3.drew:=h3.drew.p1;obtain⟨Y,m4,_,_⟩:=WO.ca hH bB h4;refine aq<|aN (WO.cell (i:=0) h4 rfl)<|az (n:=l.x.1.ox) (aB h4.p1 (i:=2) rfl)<|WO.lj h4 bB b0<|aq<|bh m4<|ff h4.p1 (by rw[dq l.x.2];decide) ?_;rw[v3];refine ay (Mw (uV l.x) hH bB h4) ?_;rintro _ w4 ⟨rfl,dk,h5⟩;have hs:=dk _ hf;unfold xF;rw[hf];refine⟨_,_,_,rfl,aG h5 λMu w5 h6=>bL h6 rfl (iO hs.bm.1) (λu hu=>jt _ u (by simpa[gA] using hu)) λw6 h7=>aw rfl ?_⟩;have h8:V O (ab k3 (bF l.x.1) 164*(WO P k S*F)) w6:=h7.right.p1;have Au:l.x.1.ox≠aj:=λq=>cp (.inl q);refine az (n:=l.x.1.ox) (aB h8 (i:=2) rfl)<|aY (by omega) b1<|aw (by simpa using Au)<|ff h8 (by rw[dq l.x.2];decide) ?_;rw[v3];obtain⟨Y2,_,h9,bt⟩:=WO.ca hH bB h8.p1;refine fx a0 (by omega)<|az (n:=l.x.1.rf) (aB h8 (i:=1) rfl)<|ay (aer (uV l.x) l.x.2.rf.1 h9 ajx) ?_;rintro _ w7 ⟨rfl,aV⟩;have bu:=bt _ _ aV;refine bI<|aw rfl<|aq<|bh (WO.cell (i:=8) bu rfl)<|ay (Ef Tv.1 Tv.2 bu) ?_;rintro _ w8 ⟨rfl,bA⟩;have bA:=bA.drew;have ya:ch {bV S l.x.1.ox {H with ca:=cF H.ca sh {s with cs:=zG}} with di:=(cI tJ (bV S l.x.1.ox {H with ca:=cF H.ca sh {s with cs:=zG}}).di hn).1} l.x.1.ox=some {H with ca:=cF H.ca sh {s with cs:=zG}}:=by refine Eq.trans (x8 (S:=bV S l.x.1.ox {H with ca:=cF H.ca sh {s with cs:=zG}}) ?_) (sR hH);rfl
 obtain⟨Y3,yb,_,_⟩:=WO.Hy ya bB bA;refine⟨_,_,rfl,aq<|aN (WO.cell (i:=0) bA rfl)<|az (n:=l.x.1.ox) (aB bA.p1 (i:=2) rfl)<|WO.lj bA bB b0<|aq<|bh yb<|fx a0 (by omega)<|ay (Tm ya bB hj bA) ?_⟩;rintro _ w9 ⟨⟨b,rfl⟩,bN⟩;have es:bV {bV S l.x.1.ox {H with ca:=cF H.ca sh {s with cs:=zG}} with di:=(cI tJ (bV S l.x.1.ox {H with ca:=cF H.ca sh {s with cs:=zG}}).di hn).1} l.x.1.ox H2=bV {S with di:=(cI tJ S.di hn).1} l.x.1.ox H2:=by simp[bV]
 rw[es] at bN;refine cR<|bz bN.p1 (dq l.x.2)<|ay (Tj hm (WH.aI hI bN)) ?_;rintro _ dn ⟨rfl,bY⟩;exact bI ⟨rfl,bY.p1.right⟩
end
theorem ajy (l:List (Int×Int)) (h a:Int):fg (tQ l) h (some a)=tQ ((h,a)::l):=by
 funext y;unfold fg tQ;by_cases e:y=h
 .rw[if_pos e,List.find?_cons_of_pos (by simp[e])];rfl
 .rw[if_neg e,EC (by simp;exact λq=>e q.symm)]
section
variable {O w:ao} {F:HP} {k:Nat} {S:WS} {P:WP} {I:WI}
theorem Tw {aj n code:Int} {e:QE} {S':WS} (hm:vY S aj e.y n code=some S') (h:V O (WH k I S*F) w):ae 177 #[al k,aa aj,an (gC e),aa n,aa code] w λv w'=>v=aT/\V O (WH k I S'*F) w':=by
 unfold vY at hm;obtain⟨r,hr,rfl⟩:=dd.1 hm;obtain⟨P,hI,h⟩:=WH.aK h;apply aat;refine aG h λk1 w1 h1=> ?_;have h1:=h1.drew;refine aq<|bh (WO.cell (i:=6) h1.p1 rfl)<|az (n:=e.y.fr) (aB h1 (i:=1) rfl)<|az (n:=e.y.cl) (aB h1 (i:=4) rfl) ?_;have ep:((zV (aa 2) (aa aj) (aa e.y.fr) (ah 0) (ah e.y.cl) (aa 0) (aa n) (aa code)):aM)=bC ⟨2,aj,e.y.fr,0,e.y.cl,dW,0,n,code,[]⟩ aP:=by apply cT;simp[bC,jI,mv,dW,bc,List.replicate]
 rw[ep];refine ay (Hx hr rfl h1.p1) ?_;rintro _ w2 ⟨⟨m,rfl⟩,h2⟩;exact⟨_,_,rfl,rfl,(WH.aI hI h2).p1.right⟩
end
section
variable {O w:ao} {F:HP} {k:Nat} {S:WS} {P:WP} {I:WI}
theorem IL {aj:Int} {A:aM} {r:WS×Int} (uj:A[2]?=some (ah 0)) (yA:A.extract 4 (4+16)=gA (oz 100)) (hAs:4+16<=A.size) (hm:Kc S aj=some r) (h:V O (WH k I S*F) w): ae 112 #[al k,aa aj,an A] w λv w'=>v=aa r.2/\V O (WH k I r.1*F) w':=by
 unfold Kc at hm;dsimp only at hm;split at hm
 .cases hm
 rename_i hz;have hz:=iA.1 hz;obtain⟨S2,gu,hm⟩:=bZ.1 hm;obtain⟨P,hI,h⟩:=WH.aK h;apply aag;refine aG h λk1 w1 h1=> ?_;have h1:=h1.drew;refine aq<|bh (WO.cell (i:=7) h1.p1 rfl)<|ff h1 hAs ?_;rw[yA];obtain⟨hp,h2⟩:=gH.aK (WO.zA h1.p1);refine ay (agP (i:=0) Ho (id:=oz 100) rfl (by decide+kernel) h2) ?_;rintro _ w2 ⟨rfl,h3⟩;have h3:=WO.wD S.ld S.c0 S.c2 S.cK (gH.aI hp h3);refine⟨_,_,_,rfl,aw rfl<|aq<|bh (WO.cell (i:=7) h3 rfl)<|ay (Mv (c:=wz) (by decide) rfl h3) ?_⟩;rintro _ w3 ⟨y,G,rfl,hy,hG,h4⟩;refine⟨_,_,rfl,aG h4 λrO w4 h5=>bL h5 rfl (by simp[fT]) (by simpa using sL y) λw5 h6=>⟨λn w'=>n=0/\w'=w5,?_,?_⟩⟩
 .refine az (n:=0) (aB (h6.aF (B:=ab k1 A 35*(ab rO (dN y).toArray 66*(WO P k S*(G*F)))) (by ac_rfl)) (i:=2) uj)<|aw rfl ⟨rfl,rfl⟩
 rintro u _ dH ⟨rfl,rfl⟩;obtain⟨uY,xK,uZ,_⟩:=uX y;have nz:y.slots=2:=by have:=congrArg jz.slots hy;exact this
 have h7:V O (WO P k S*(ab rO (dN y).toArray 66*(G*F))) dH:=(h6.aF (B:=ab k1 A 35*(WO P k S*(ab rO (dN y).toArray 66*(G*F)))) (by ac_rfl)).right;refine aq<|WO.clear h7 λkQ h8=> ?_;have tU:({P with run:=none}:WP).im=I:=hI;have h8:=h8.drew;rw[nz] at xK;obtain⟨hi,a,PP,h9⟩:=gF.aK (WO.wC h8);refine aq<|bh (WO.cell (i:=1) h8 rfl)<|az (n:=2) (aB h8.p1 (i:=17) xK)<|ay (Hp.ah7 (slots:=2) (outer:=0) h9 hi (by decide) (by decide)) ?_;rintro _ nM ⟨rfl,P',aV⟩;have hinv:dv 1048576 (qA S.heap 2 0).1:=(ad7 hi (by decide)).1;have aV:V O (Hp.HH P.heap a 1048576 P' (qA S.heap 2 0).1*(bT {P with run:=none} k {S with run:=none}*(tR {P with run:=none} k {S with run:=none}*(ab rO (dN y).toArray 66*(G*F))))) nM:=aV;generalize qA S.heap 2 0=z at aV hinv hz gu hm ⊢;have bu:=WO.zy (P:={P with run:=none}) (S:={S with run:=none}) z.1 (gF.aI hinv aV);refine⟨z.2.1,z.2.2,rfl,?_⟩;refine aw (by rw[hz];rfl) ?_;refine aq ?_;refine kK (WO.cell (i:=2) bu rfl) ?_;refine xk (kf:=λx:Int=>ah x) (vf:=x5) Ea (x:=z.2.1) (v:=aj) (WO.D5 bu) trivial λnN bA=> ?_;rw[ajy] at bA;have bN:=WO.SR _ bA;refine aq<|bh (WO.cell (i:=7) bN rfl)<|ay (Hv gu bN) ?_;rintro _ nL ⟨rfl,bY⟩;refine bI<|aG bY λk58 rp cE=>bL cE rfl rfl (by simp[Value.oneCell']) λqt df=>aw rfl ?_;have df:=df.drew;have hf:y.cz=[vd,x4,BI]:=congrArg jz.cz hy;have dZ:V O (G*(ab k58 #[aa 1,ah z.2.1] 139*(WO {P with run:=none} k S2*(ab rO (dN y).toArray 66*F)))) qt.drew:=df.p3;have Tx:=hG.cz _ _ dZ.left;rw[hf] at Tx;refine bz df rfl<|aN (aB dZ.p3 (i:=16) uY) ?_;rw[hf];refine kZ (y:=vd) nw (by decide) Tx (by decide) rfl λa70 ha=> ?_;rw[Sp.add_zero];refine nu (vs:=bc dW) rfl (λj u hu=>ha j u ?_) ?_
 .have:ic vd=bc dW++[aa (-1)]:=rfl;rw[this,r9 (ct.1 hu).1,hu]
 refine ay (Ti (lk:=(1,z.2.1)) (bm:=dW) hm (WH.aI (P:={P with run:=none}) tU (dZ.p2))) ?_;rintro _ tr ⟨rfl,fO⟩;exact bI ⟨rfl,(fO.p3.p3.p3.g2).right⟩
end
section
variable {O w:ao} {F:HP} {k:Nat} {S:WS} {P:WP} {I:WI}
theorem ajB (h:V O (WH k I S*F) w):ae 20 #[al k] w λv w'=>v=al I.heap/\w'=w:=by obtain⟨P,hI,h⟩:=WH.aK h;have e:P.heap=I.heap:=congrArg WI.heap hI;apply ZS;exact aw rfl<|aq<|bh (WO.cell (i:=1) h rfl) ⟨by rw[<-e],rfl⟩
theorem Ty (h:V O (WH k I S*F) w):ae 11 #[al k] w λv w'=>v=al I.cD/\w'=w:=by obtain⟨P,hI,h⟩:=WH.aK h;have e:P.cD=I.cD:=congrArg WI.cD hI;apply ZQ;exact aw rfl<|aq<|bh (WO.cell (i:=6) h rfl) ⟨by rw[<-e],rfl⟩
theorem Tz (h:V O (WH k I S*F) w):ae 34 #[al k] w λv w'=>v=al I.eV/\w'=w:=by obtain⟨P,hI,h⟩:=WH.aK h;have e:P.eV=I.eV:=congrArg WI.eV hI;apply ZW;exact aw rfl<|aq<|bh (WO.cell (i:=7) h rfl) ⟨by rw[<-e],rfl⟩
end
def eQ (kf:Nat):eX:={qC with ob:=kf,md:= -2}
def vh:eX:={qC with md:= -1}
theorem yc {S:WS} {a:Int} {H H':dr}:bV (bV S a H) a H'=bV S a H':=by simp[bV]
def vi (Q:lQ) (aj:Int) (H:dr):HP:=ji Q.kr H.fi*(dD Q.ks aj H.ca*(eE Q.kp H.dA*(jB Q.kl Q.rl H.bX H.gU*mi Q.kq H.ij)))
theorem My (f:eX) (kg:Option Nat) (e:QE):(cP f kg e)[36]?=some (ah f.cl):=by have:=qF e;unfold cP;rw[kI,ix (by simp),ix (by simp[this])];simp[this]
section
variable {O w:ao} {F:HP} {k:Nat} {S:WS} {P:WP} {I:WI} {aj:Int} {H:dr} {κ:eA}
theorem WO.rY (hH:ch S aj=some H) (h:V O (WO P k S*F) w):∃(κ:eA) (Q:lQ) (X:HP),V O (ir Q κ.kh aj H*(X*F)) w/\P.bw[aj.toNat]?=some κ/\0<=aj/\Q.toeA=κ/\(∀F' H' Q' w',Q'.toeA=κ->V O (ir Q' κ.kh aj H'*(X*F')) w'->V O (WO P k (bV S aj H')*F') w'):=by
 unfold ch at hH;split at hH
 .cases hH
 rename_i h0;have hl:P.bw.length=S.bQ.length:=by have h1:=h.aF (B:=bT P k S*(dO 0 P.bw S.bQ*iX P k S*F)) (by rw[WO.bQ];ac_rfl);exact(bT.aK h1).1.2.2
 obtain⟨kh,X,h1,h2,h3⟩:=dO.pull S.bQ 0 P.bw aj.toNat H hl hH;have hg:=WO.Me h;have ea:0+(aj.toNat:Int)=aj:=by omega
 rw[h2,ea] at hg;have pz:V O (qK kh aj H*(X*(bT P k S*(iX P k S*F)))) w:=hg.a;obtain⟨Q,jQ⟩:=pz.ex;have jQ:=jQ.a;refine⟨kh,Q,X*(bT P k S*iX P k S),jQ.right.aF (by ac_rfl),h1,by omega,jQ.bM,λF' H' Q' w' hq h'=> ?_⟩;have h4:V O (qK kh aj H'*(X*(bT P k S*(iX P k S*F')))) w':=V.bO Q' ((V.eL hq (h'.p1.a.p1.a.p2.p3)).g1);have h5:V O (dO 0 P.bw (S.bQ.set aj.toNat H')*(bT P k S*(iX P k S*F'))) w':=by rw[h3 H',ea];exact h4.g1
 exact WO.Mf _ (by simp) h5
theorem HO.Eg {Q:lQ} {kh:Nat} {Y:HP} (h:V O (ir Q kh aj H*Y) w):V O (jk Q.tp Q.tc H.th*(ab kh (gl Q H) 135*(vi Q aj H*Y))) w:=h.aF (by unfold ir vi;ac_rfl)
theorem HO.Eh {Q:lQ} {kh:Nat} {Y:HP} {p:av} {c:Nat} {t:Option eX} (h:V O (jk p c t*(ab kh (gl {Q with tp:=p,tc:=c} {H with th:=t}) 135*(vi Q aj H*Y))) w):V O (ir {Q with tp:=p,tc:=c} kh aj {H with th:=t}*Y) w:=by
 have e:ir {Q with tp:=p,tc:=c} kh aj {H with th:=t}=jk p c t*(ab kh (gl {Q with tp:=p,tc:=c} {H with th:=t}) 135*vi Q aj H):=by show ab kh (gl {Q with tp:=p,tc:=c} {H with th:=t}) 135*_=_;unfold vi;ac_rfl
 rw[e];exact h.g2
theorem jk.jh {p:av} {c:Nat} {f:eX} (iv:f.md=0):jk p c (some f)=ex λ(q:av)=>ex λ(d:Nat)=>ex λ(kf:Nat)=>own 278 1 p 1 c [af q 1 d]*(own 279 1 q 1 d [al kf]*gE kf f):=by simp[jk,iv]
theorem jk.out {p:av} {c kf:Nat}:jk p c (some (eQ kf))=ex λ(q:av)=>ex λ(d:Nat)=>own 278 1 p 1 c [af q 1 d]*own 279 1 q 1 d [al kf]:=by simp[jk,eQ]
theorem jk.no {p:av} {c:Nat}:jk p c (some vh)=ex λ(q:av)=>ex λ(d:Nat)=>own 278 1 p 1 c [af q 0 d]*own 279 1 q 0 d []:=by simp[jk,vh]
theorem WO.Mz {f:eX} (hH:ch S aj=some H) (ht:H.th=some f) (iv:f.md=0) (h:V O (WO P k S*F) w):∃kf,V O (WO P k (bV S aj {H with th:=some (eQ kf)})*(gE kf f*F)) w:=by
 obtain⟨κ,Q,X,h1,_,_,hQ,bt⟩:=WO.rY hH h;have h2:=HO.Eg h1;rw[ht,jk.jh iv] at h2;obtain⟨q,h2⟩:=h2.ex;obtain⟨d,h2⟩:=h2.ex;obtain⟨kf,h2⟩:=h2.ex;refine⟨kf,bt _ _ _ _ (show({Q with tp:=Q.tp,tc:=Q.tc}:lQ).toeA=κ from hQ) (HO.Eh ?_)⟩;rw[jk.out];have hb:gl {Q with tp:=Q.tp,tc:=Q.tc} {H with th:=some (eQ kf)}=gl Q H:=by simp[gl,sQ,ht]
 rw[hb];refine V.bO q (V.bO d (h2.aF ?_));ac_rfl
theorem WO.MA {f:eX} {kf:Nat} (hH:ch S aj=some H) (ht:H.th=some (eQ kf)) (iv:f.md=0) (h:V O (WO P k S*(gE kf f*F)) w):V O (WO P k (bV S aj {H with th:=some f})*F) w:=by
 obtain⟨κ,Q,X,h1,_,_,hQ,bt⟩:=WO.rY hH h;have h2:=HO.Eg h1;rw[ht,jk.out] at h2;obtain⟨q,h2⟩:=h2.ex;obtain⟨d,h2⟩:=h2.ex;refine bt _ _ _ _ (show({Q with tp:=Q.tp,tc:=Q.tc}:lQ).toeA=κ from hQ) (HO.Eh ?_);rw[jk.jh iv];have hb:gl {Q with tp:=Q.tp,tc:=Q.tc} {H with th:=some f}=gl Q H:=by simp[gl,sQ,ht]
 rw[hb];refine V.bO q (V.bO d (V.bO kf (h2.aF ?_)));ac_rfl
theorem WO.HA {kf:Nat} (hH:ch S aj=some H) (ht:H.th=some (eQ kf)) (bB:P.bw[aj.toNat]?=some κ) (h:V O (WO P k S*F) w):∃tp tc q d,w.cell? ((aD κ.kh).add 7)=some (af tp 1 tc)/\Rd w 1 tp 1 [af q 1 d]/\Rd w 1 q 1 [al kf]/\ (∀K:av->Nat->Nat->Prop,K q 0 d->fD q d 1 0 0 K)/\∀(K:ao->Prop),(∀w',V O (WO P k (bV S aj {H with th:=some vh})*F) w'->K w')->ba tp 1 0 1 λa=>st a (af q 0 d) w K:=by
 obtain⟨qL,Q,X,h1,kF,_,hQ,bt⟩:=WO.rY hH h;rw[bB] at kF;cases kF;have h2:=HO.Eg h1;rw[ht,jk.out] at h2;obtain⟨q,h2⟩:=h2.ex;obtain⟨d,h2⟩:=h2.ex;have h2:V O (own 278 1 Q.tp 1 Q.tc [af q 1 d]*(own 279 1 q 1 d [al kf]*(ab κ.kh (gl Q H) 135*(vi Q aj H*(X*F))))) w:=h2.aF (by unfold al;ac_rfl);have h3:=HO.cell h1 (i:=7) (v:=af Q.tp (sQ H.th) Q.tc) rfl;rw[ht] at h3;refine⟨Q.tp,Q.tc,q,d,h3,h2.left.rd,h2.p1.left.rd,λK hK=>ur (h2.p1) (by decide) (by decide) hK,λK hK=> ?_⟩;refine fM h2.left.rd (by decide) (by decide) λa ha=> ?_;rcases Fv h2.left with⟨_,e⟩|⟨g,e⟩
 .omega
 rw[e] at ha;cases ha;rw[e] at h2;show st ((aD g).add (0*1)) _ _ _;rw[Nat.zero_mul,Sp.add_zero];refine IM h2 (by simp) λw' h4=>hK w' (bt _ _ _ _ (show({Q with tp:=Q.tp,tc:=Q.tc}:lQ).toeA=κ from hQ) (HO.Eh ?_));rw[jk.no];have hb:gl {Q with tp:=Q.tp,tc:=Q.tc} {H with th:=some vh}=gl Q H:=by simp[gl,sQ,ht]
 rw[hb,e];have h5:=Fu (l':=0) h4.p1 (by decide);refine V.bO q (V.bO d (h5.aF ?_));show own 279 1 q 0 d []*(own 278 1 (aU g) 1 Q.tc [af q 0 d]*_)=(own 278 1 (aU g) 1 Q.tc [af q 0 d]*own 279 1 q 0 d [])*_;ac_rfl
theorem TA:fe au 133 278 aP 1 24:=⟨by kernel_rfl,by kernel_rfl,rfl,by decide⟩
theorem WO.ajC (hH:ch S aj=some H) (ht:H.th=some vh) (bB:P.bw[aj.toNat]?=some κ) (h:V O (WO P k S*F) w):∃tp tc,w.cell? ((aD κ.kh).add 7)=some (af tp 1 tc)/\ (∀K:av->Nat->Nat->Prop,K tp 0 tc->fD tp tc 1 0 0 K)/\(∀K:av->Nat->Nat->Prop,(∀p c,K p 0 c)->fD tp tc 1 1 1 K)/\ (∀(K:ao->Prop) (p2:av) (c2:Nat),(∀w',V O (WO P k (bV S aj {H with th:=none})*F) w'->K w')->bR au (Builtin.append_ #[133,133] 133 #[af tp 0 tc,af p2 0 c2]) w λp l c w'=>nn (aU κ.kh) λa=>st (a.add 7) (af p l c) w' K):=by
 obtain⟨qL,Q,X,h1,kF,_,hQ,bt⟩:=WO.rY hH h;rw[bB] at kF;cases kF;have h2:=HO.Eg h1;rw[ht,jk.no] at h2;obtain⟨q,h2⟩:=h2.ex;obtain⟨d,h2⟩:=h2.ex;have h2:V O (own 278 1 Q.tp 1 Q.tc [af q 0 d]*(ab κ.kh (gl Q H) 135*(vi Q aj H*(X*F)))) w:=(h2.a.p1).right;have h3:=HO.cell h1 (i:=7) (v:=af Q.tp (sQ H.th) Q.tc) rfl;rw[ht] at h3;have mr:=h2.left.vJ;refine⟨Q.tp,Q.tc,h3,λK hK=>ur h2 (by decide) (by decide) hK,λK hK=>oI (by decide) (by decide) (by omega) (hK _ _),λK p2 c2 hK=> ?_⟩;have h4:=Fu (l':=0) h2 (by decide);refine lW TA (m:=0) (news:=[]) h4 (Rd.nil _ _ _) (by simp) (by decide) (by decide) λp' c' w' h5=> ?_;have h5:V O (ab κ.kh (gl Q H) 135*(own 278 1 p' 0 c' []*(vi Q aj H*(X*F)))) w':=h5.aF (by show own 278 1 p' 0 c' []*_=_;ac_rfl);refine aq ?_;rw[du];show st ⟨κ.kh,7,none⟩ (af p' 0 c') _ _;refine bD (i:=7) h5 (by simp[gl]) λw2 h6=>hK w2 (bt _ _ _ _ (show({Q with tp:=p',tc:=c'}:lQ).toeA=κ from hQ) (HO.Eh ?_));have hb:(gl Q H).setIfInBounds 7 (af p' 0 c')=gl {Q with tp:=p',tc:=c'} {H with th:=none}:=by simp[gl,sQ]
 rw[hb] at h6;exact h6.p1
theorem gE.aK {kf:Nat} {f:eX} (h:V O (gE kf f*F) w):∃kg e,e.y=f.bk/\V O (ab kf (cP f kg e) 284*(rV kg f.fr*F)) w:=by obtain⟨kg,h⟩:=h.ex;obtain⟨e,h⟩:=h.ex;have h:=h.a;exact⟨kg,e,h.bM,h.right.a⟩
theorem WO.TB {f:eX} {kf:Nat} (iv:f.md=0) (hH:ch S aj=some H) (ht:H.th=none) (bB:P.bw[aj.toNat]?=some κ) (h:V O (WO P k S*(gE kf f*F)) w):∃tp tc,w.cell? ((aD κ.kh).add 7)=some (af tp 0 tc)/\ (∀K:ao->Prop,(∀w',V O (WO P k (bV S aj {H with th:=some f})*F) w'->w'.cell? ((aD kf).add 36)=some (ah f.cl)->K w')->new #[al kf] 279 w λk1 w1=>new #[af (aU k1) 1 1] 278 w1 λk2 w2=>bR au (Builtin.append_ #[133,133] 133 #[af tp 0 tc,af (aU k2) 1 1]) w2 λp l c w'=>nn (aU κ.kh) λa=>st (a.add 7) (af p l c) w' K):=by
 obtain⟨qL,Q,X,h1,kF,_,hQ,bt⟩:=WO.rY hH h;rw[bB] at kF;cases kF;have h2:=HO.Eg h1;rw[ht] at h2;have h3:=HO.cell h1 (i:=7) (v:=af Q.tp (sQ H.th) Q.tc) rfl;rw[ht] at h3;refine⟨Q.tp,Q.tc,h3,λK hK=>aG h2 λk1 w1 h4=>aG h4 λk2 w2 h5=> ?_⟩;have h5:V O (ab k2 #[af (aU k1) 1 1] 278*(own 278 1 Q.tp 0 Q.tc []*(ab k1 #[al kf] 279*(ab κ.kh (gl Q H) 135*(vi Q aj H*(X*(gE kf f*F))))))) w2:=h5.aF (by show _*(_*(own 278 1 Q.tp 0 Q.tc []*_))=_;ac_rfl);refine oG TA h5 rfl (by decide) (by decide) λp' c' w3 h6=> ?_;have h6:V O (ab κ.kh (gl Q H) 135*(ab k1 #[al kf] 279*(own 278 1 p' 1 c' [af (aU k1) 1 1]*(vi Q aj H*(X*(gE kf f*F)))))) w3:=h6.aF (by show own 278 1 p' 1 c' [af (aU k1) 1 1]*_=_;ac_rfl);refine aq ?_;rw[du];show st ⟨κ.kh,7,none⟩ (af p' 1 c') _ _;refine bD (i:=7) h6 (by simp[gl]) λw4 h7=>hK w4 (bt _ _ _ _ (show({Q with tp:=p',tc:=c'}:lQ).toeA=κ from hQ) (HO.Eh ?_)) ?_;rotate_left
 .obtain⟨kg,e,_,h8⟩:=gE.aK (h7.right.right.right.right.right);exact aB h8 (My f kg e)
 have hb:(gl Q H).setIfInBounds 7 (af p' 1 c')=gl {Q with tp:=p',tc:=c'} {H with th:=some f}:=by simp[gl,sQ]
 rw[hb] at h7;rw[jk.jh iv];have h8:=V.lx (n:=1) (sz:=1) h7.p1 rfl (by decide);refine V.bO (aU k1) (V.bO 1 (V.bO kf (h8.aF ?_)));show own 279 1 (aU k1) 1 1 [al kf]*_=_;ac_rfl
theorem MB {q:av} {d kf:Nat} (h:Rd w 1 q 1 [al kf]):ae 98 #[af q 1 d] w λv w'=>v=al kf/\w'=w:=by apply Z9;refine aY (by decide) (by decide)<|fM h (by decide) (by decide) λa ha=>bh ?_ ⟨rfl,rfl⟩;exact h.get ha rfl
theorem ajD {kf:Nat} {f:eX} {kg:Option Nat} {e:QE} {t:TypeId} (h:V O (ab kf (cP f kg e) t*F) w):ae 99 #[al kf] w λv w'=>v=aC (decide (f.wt=0\/f.rd=true))/\w'=w:=by
 apply aaa;refine aq<|az (n:=f.wt) (aB h (i:=7) rfl) ?_;by_cases e0:f.wt=0
 .exact aW (by simp[e0]) ⟨by simp[e0],rfl⟩
 .exact aw (by simpa using e0)<|aq<|gQ (n:=f.rd) (aB h (i:=8) rfl) ⟨by simp[e0],rfl⟩
theorem gE.aI {kf:Nat} {f:eX} {kg:Option Nat} {e:QE} (he:e.y=f.bk) (h:V O (ab kf (cP f kg e) 284*(rV kg f.fr*F)) w):V O (gE kf f*F) w:=V.bO kg (V.bO e ((V.eL he (h.g1)).g1))
theorem MC (hH:ch S aj=some H) (ht:H.th=none) (bB:P.bw[aj.toNat]?=some κ) (h:V O (WO P k S*F) w):ae 100 #[al κ.kh] w λv w'=>v=aC true/\w'=w:=by
 obtain⟨qL,Q,X,h1,kF,_,hQ,_⟩:=WO.rY hH h;rw[bB] at kF;cases kF;have h3:=HO.cell h1 (i:=7) (v:=af Q.tp (sQ H.th) Q.tc) rfl;rw[ht] at h3;apply N3;refine aq<|gQ (n:=H.pF) (HO.cell h1 (i:=0) rfl) ?_;cases H.pF
 .exact aw rfl<|aq<|aN h3 ⟨rfl,rfl⟩
 .exact aW rfl<|aq<|aN h3 ⟨rfl,rfl⟩
theorem ajE {kf:Nat} (hH:ch S aj=some H) (ht:H.th=some (eQ kf)) (bB:P.bw[aj.toNat]?=some κ) (h:V O (WO P k S*F) w):ae 100 #[al κ.kh] w λv w'=>v=aC H.pF/\w'=w:=by
 obtain⟨qL,Q,X,h1,kF,_,hQ,_⟩:=WO.rY hH h;rw[bB] at kF;cases kF;have h3:=HO.cell h1 (i:=7) (v:=af Q.tp (sQ H.th) Q.tc) rfl;rw[ht] at h3;apply N3;refine aq<|gQ (n:=H.pF) (HO.cell h1 (i:=0) rfl) ?_;cases H.pF
 .exact aw rfl<|aq<|aN h3 ⟨rfl,rfl⟩
 .exact aW rfl<|aq<|aN h3 ⟨rfl,rfl⟩
end
theorem TC {S S':WS} {t:TM} (h:pH S t=some S'):S'.bQ=S.bQ:=by
 unfold pH at h;split at h
 .cases h;rfl
 .cases h
theorem TD {S S':WS} {t:TM} {a:Int} {H:dr} (h:pH S t=some S'):pH (bV S a H) t=some (bV S' a H):=by
 unfold pH at h ⊢;split at h
 .rename_i e;cases h;rw[if_pos (by exact e)];rfl
 .cases h
theorem TE {S:WS} {x:PK} {r:WS×Int} (h:oR S x=some r):r.1.bQ=S.bQ:=by
 unfold oR at h;split at h
 .cases h;rfl
 .cases h
theorem ajF {S:WS} {x:PK} {r:WS×Int} {a:Int} {H:dr} (h:oR S x=some r):oR (bV S a H) x=some (bV r.1 a H,r.2):=by
 unfold oR at h ⊢;split at h
 .rename_i e;cases h;rw[if_pos (by exact e)];rfl
 .cases h
theorem ajG {S S':WS} {aj n code:Int} {p:PK} (h:vY S aj p n code=some S'):S'.bQ=S.bQ:=by unfold vY at h;obtain⟨r,hr,rfl⟩:=dd.1 h;exact TE hr
theorem ajH {S S':WS} {aj n code a:Int} {p:PK} {H:dr} (h:vY S aj p n code=some S'):vY (bV S a H) aj p n code=some (bV S' a H):=by unfold vY at h ⊢;obtain⟨r,hr,rfl⟩:=dd.1 h;rw[ajF hr];rfl
theorem ajI (f:eX) (kg:Option Nat) (e:QE):(cP f kg e)[11]?=some (aa e.y.kd):=rfl
theorem ajJ (f:eX) (kg:Option Nat) (e:QE):(cP f kg e).extract 11 (11+25)=gC e:=by have:=qF e;apply cT;rw[pV,oZ];show(((_:dB)++(gB e++[ah f.cl])).drop 11).take (11+25- 11)=_;rw[Ey (by simp)];simp only[EI,m9,List.drop_nil,m8];rw[sU (by omega),eW (by omega)];rfl
section
variable {O w:ao} {F:HP} {k:Nat} {S:WS} {P:WP} {I:WI} {aj:Int} {H:dr} {κ:eA}
theorem TF {n code:Int} {f:eX} {kf:Nat} {kg:Option Nat} {e:QE} {S':WS} (hm:Gn S aj f n code=some S') (hH:ch S aj=some H) (he:e.y=f.bk) (h:V O (WH k I (bV S aj {H with th:=some (eQ kf)})*(ab kf (cP f kg e) 284*F)) w): ae 103 #[al k,aa aj,aa 0,aa n,aa code] w λv w'=>v=aT/\V O (WH k I S'*F) w':=by
 unfold Gn at hm;split at hm
 .cases hm
 rename_i iv;have iv:f.md=0:=iA.1 iv;rw[hH,gg] at hm;obtain⟨S1,fW,hm⟩:=bZ.1 hm;obtain⟨P,hI,h⟩:=WH.aK h;have kE:=sR (H':={H with th:=some (eQ kf)}) hH;obtain⟨κ,bB,h0⟩:=WO.pR kE h;obtain⟨tp,tc,q,d,lh,tV,yd,JZ,hT⟩:=WO.HA kE rfl bB h;have zF:I.bw[aj.toNat]?=some κ:=by rw[<-mj hI];exact bB
 apply aad;refine aq<|aN (WO.cell (i:=0) h rfl)<|WO.lj h bB h0<|aq<|aN lh<|fM tV (by decide) (by decide) λa ha=>aN (p:=q) (l:=1) (c:=d) (tV.get ha rfl)<|ay (MB yd) ?_;rintro _ w1 ⟨rfl,rfl⟩;refine gK<|aY (by decide) (by decide)<|JZ _<|aq<|aN lh<|hT _ λw2 h2=> ?_;rw[yc] at h2;have h2:V O (WO P k (bV S aj {H with th:=some vh})*(ab kf (cP f kg e) 284*F)) w2:=h2;have ajK:S1.bQ=(bV S aj {H with th:=none}).bQ:=by
  split at fW
  .exact TC fW
  .split at fW
   .exact ajG fW
   .cases fW
 refine⟨λw'=>V O (WH k I (bV S1 aj {H with th:=some vh})*(ab kf (cP f kg e) 284*F)) w',?_,?_⟩
 .refine aq<|az (n:=f.cl) (aB h2.p1 (i:=36) (My f kg e)) ?_;split at fW
  .rename_i j8;have ht:=TD (a:=aj) (H:={H with th:=some vh}) fW;rw[yc] at ht;refine aW (by simpa using j8)<|aq<|az (n:=f.cl) (aB h2.p1 (i:=36) (My f kg e))<|ay (x6 (t:=⟨3,f.cl,0,n,0,code⟩) ht (WH.aI hI h2)) ?_;rintro _ w3 ⟨rfl,h3⟩;exact⟨rfl,h3⟩
  .rename_i j8;split at fW
   .rename_i qd;have ht:=ajH (a:=aj) (H:={H with th:=some vh}) fW;rw[yc] at ht;rw[<-he] at qd ht;refine aw (by simpa using j8)<|aq<|az (n:=e.y.kd) (by rw[jG];exact aB h2.p1 (i:=11) (ajI f kg e))<|aW (by simpa using qd)<|aq<|ff h2.p1 (by rw[Ee];decide) ?_;rw[ajJ];refine ay (Tw ht (WH.aI hI h2)) ?_;rintro _ w3 ⟨rfl,h3⟩;exact⟨rfl,h3⟩
   .cases fW
 intro u w8 h8;obtain⟨P,hI,h8⟩:=WH.aK h8;have bB:P.bw[aj.toNat]?=some κ:=by rw[mj hI];exact zF
 have h8:=h8.drew;have lR:ch S1 aj=some {H with th:=none}:=(x8 ajK).trans (sR hH);have ya:=sR (H':={H with th:=some vh}) lR;obtain⟨tp2,tc2,TG,mC,wO,hC⟩:=WO.ajC ya rfl bB h8;refine aW rfl<|aq<|aN TG<|mC _<|aq<|aN TG<|aY (by decide) (by decide)<|wO _ λp2 c2=>hC _ p2 c2 λw9 h9=> ?_;rw[yc] at h9;have e9:bV S1 aj {H with th:=none}=S1:=rX lR;have h9:V O (WO P k S1*(ab kf (cP f kg e) 284*F)) w9:=by rw[<-e9];exact h9
 refine ay (QX iv hm (WH.aI hI h9)) ?_;rintro _ dn ⟨rfl,aV⟩;exact⟨rfl,rfl,aV.p1.right⟩
end
end Go.Proofs.YtjhnnnfnkjighaaGreatDoor
