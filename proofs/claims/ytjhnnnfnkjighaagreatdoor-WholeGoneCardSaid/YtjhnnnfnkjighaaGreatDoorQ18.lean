/- Whole: a part of the proof. No conditions. -/
import Derived.Test.YtjhnnnfnkjighaaGreatDoorQ17
import Derived.Laws.CopyRow
set_option linter.unusedVariables false
set_option linter.unusedSimpArgs false
set_option maxRecDepth 100000
namespace Go.Proofs.YtjhnnnfnkjighaaGreatDoor
open Go.Sp Go.RowKit
section
variable {O w:ao} {F:HP} {k:Nat} {r:fz} {P:we}
theorem wg.eC {n:Nat} {es:List Nat} (hp:wg P r) (hn:r.lH[n]?=some es):∃e:wb,e.l=es/\P.es[n]?=some e/\bd P.H 1 e.p e.l.length (dx e.l):=by rw[<-hp.1,eZ,dd] at hn;obtain⟨e,he,rfl⟩:=hn;exact⟨e,rfl,he,hp.2 e (dF he)⟩
theorem bH.lI (h:V O (bH P k r*F) w):w.cell? ((aD k).add 7)=some (aa (zn r.lI)):=bH.cell h rfl
theorem bH.row {n:Nat} {e:wb} {K:av->Nat->Nat->Prop} (h:V O (bH P k r*F) w) (he:P.es[n]?=some e) (hk:K e.p e.l.length e.c):ba P.pe P.es.length (n:Int) 1 λa=>aL a w K:=kZ G7 (by decide) (bH.at h).p2.left.rd (by omega) (by rw[cu];exact he) λa ha=>aN (by simpa[Sp.add_zero] using ha 0 _ rfl) hk
theorem bH.get {e:wb} {j x:Nat} {K:Int->Prop} (h:V O (bH P k r*F) w) (hG:bd P.H 1 e.p e.l.length (dx e.l)) (hj:e.l[j]?=some x) (hk:K (x:Int)):ba e.p e.l.length (j:Int) 1 λa=>ax .i64 a w K:=by have hr:=hG _ _ (bH.at h).p3.left;have aQ:=(ct.1 hj).1;refine fM hr (by omega) (by omega) λa ha=>az ?_ hk;rw[cu,jT];exact hr.get ha (G6 hj)
theorem bH.head {n:Nat} {ws:List Nat} {K:Int->Prop} (hw:r.waits=n::ws) (h:V O (bH P k r*F) w) (hk:K (n:Int)):ba P.pw r.waits.length 0 1 λa=>ax .i64 a w K:=by
 have hr:=JR (bH.at h).right.p4;have:0<r.waits.length:=by rw[hw];simp
 refine fM hr (by decide) (by omega) λa ha=>az (n:=(n:Int)) ?_ hk;have:=hr.get ha (j:=0) (u:=aa (n:Int)) (by rw[hw];rfl);simpa[Sp.add_zero] using this
theorem bH.pop {n:Nat} {ws:List Nat} {K:ao->Prop} (hw:r.waits=n::ws) (h:V O (bH P k r*F) w) (hk:∀P' w',P'.es=P.es->P'.H=P.H->V O (bH P' k {r with waits:=ws}*F) w'->K w'): fD P.pw P.cw 1 1 (r.waits.length:Int) λp l c=>nn (aU k) λa=>st (a.add 3) (af p l c) w K:=by
 have eB:r.waits.length=ws.length+1:=by rw[hw];rfl
 have h1:V O (jx 3 P.pw (ws.length+1) P.cw (aa (n:Int)::dx ws)*(ab k (eO P r) 356*(own 2 1 P.pc r.cZ.length P.cc (cO r.cZ)*(aE 167 1 oh P.pe P.es.length P.ce P.es*(P.H*(own 3 1 P.pl r.eU.length P.cl (cO r.eU)*(own 3 1 P.pr r.eY.length P.cr (dx r.eY)*(own 3 1 P.pf r.da.length P.cf (dx r.da)*F)))))))) w:=by have h2:=bH.at h;simp only[hw] at h2;have e:dx (n::ws)=aa (n:Int)::dx ws:=rfl;rw[e] at h2;exact h2.aF (by rw[iB];ac_rfl)
 have mr:=Qa h1;have h2:=Qb h1;refine oI (by decide) (by omega) (by omega)<|aq ?_;rw[du,dc];have e1:(if P.cw=Int.toNat 1 then P.pw else P.pw.map (·.add (Int.toNat 1*1)))=(if P.cw=1 then P.pw else P.pw.map (·.add 1)):=rfl;have e2:Int.toNat (r.waits.length:Int)- Int.toNat 1=ws.length:=by simp[eB]
 rw[e1,e2];refine pK h2.p1 (by simp[eO]) λw' h3=>hk {P with pw:=(if P.cw=1 then P.pw else P.pw.map (·.add 1)),cw:=P.cw- 1} w' rfl rfl (bH.mk ?_);have e3:(eO P r).setIfInBounds 3 (af (if P.cw=1 then P.pw else P.pw.map (·.add 1)) ws.length (P.cw- Int.toNat 1))=eO {P with pw:=(if P.cw=1 then P.pw else P.pw.map (·.add 1)),cw:=P.cw- 1} {r with waits:=ws}:=by simp[eO]
 rw[e3] at h3;exact h3.aF (by dsimp only;ac_rfl)
theorem wg.nc {P':we} {r':fz} (hp:wg P r) (h1:P'.es=P.es) (h2:P'.H=P.H) (h3:r'.lH=r.lH):wg P' r':=by unfold wg;rw[h1,h2,h3];exact hp
theorem R0 {q:fz×Option Nat} (hq:xC r=some q) (he:r.eC<=5000) (h:V O (dt k r*F) w):ae 233 #[al k] w λv w'=>v=ak #[aa ((q.2.getD 0:Nat):Int),aC q.2.isSome]/\V O (dt k q.1*F) w':=by
 obtain⟨P,hp,h⟩:=dt.aK h;apply Zv;have pop:∀{w1:ao},V O (bH P k r*F) w1->nn (aU k) λa29=>st (a29.add 7) (aa (-1)) w1 λw3=>nn (aU k) λR1=>st (R1.add 8) (aa 0) w3 λw4=>nn (aU k) λa31=>aL (a31.add 3) w4 λPT JL PU=>br (decide ((JL:Int)>0)) (nn (aU k) λa33=>aL (a33.add 3) w4 λp34 l34 c34=>ba p34 l34 0 1 λa35=>ax .i64 a35 w4 λn36=>nn (aU k) λa37=>st (a37.add 7) (aa n36) w4 λw5=>nn (aU k) λa38=>aL (a38.add 3) w5 λp39 l39 c39=>fD p39 c39 1 1 ((l39:Int)) λp40 l40 c40=>nn (aU k) λa41=>st (a41.add 3) (af p40 l40 c40) w5 λw6=>(ak #[aa 0,aC false]=ak #[aa (((none:Option Nat).getD 0:Nat):Int),aC (none:Option Nat).isSome]/\V O (dt k (rK r)*F) w6)) (ak #[aa 0,aC false]=ak #[aa (((none:Option Nat).getD 0:Nat):Int),aC (none:Option Nat).isSome]/\V O (dt k (rK r)*F) w4):=by
  intro w1 h1;refine aq<|bH.set h1 (r':={r with lI:=none}) (by decide) (by simp[eO,zn]) rfl rfl rfl rfl rfl λw3 h3=>aq<|bH.set h3 (r':={r with lI:=none,eC:=0}) (by decide) (by simp[eO]) rfl rfl rfl rfl rfl λw4 h4=>aq<|aN (bH.cell h4 (i:=3) rfl) ?_;cases hw:r.waits with
  |nil=>
   have e0:rK r={r with lI:=none,eC:=0}:=by simp[rK,hw]
   rw[e0];exact aw (by simp[hw]) ⟨rfl,dt.aI hp h4⟩
  |cons n ws=>
   have e0:rK r={r with lI:=some n,eC:=0,waits:=ws}:=by simp[rK,hw]
   rw[e0];refine aW (by simp[hw])<|aq<|aN (bH.cell h4 (i:=3) rfl)<|bH.head (r:={r with lI:=none,eC:=0}) hw h4<|aq<|bH.set h4 (r':={r with lI:=some n,eC:=0}) (by decide) (by simp[eO,zn]) rfl rfl rfl rfl rfl λw5 h5=>aq<|aN (bH.cell h5 (i:=3) rfl)<|bH.pop (r:={r with lI:=some n,eC:=0}) hw h5 λP' w6 e1 e2 h6=>⟨rfl,dt.aI (hp.nc e1 e2 rfl) h6⟩
 unfold xC at hq;cases BE:r.lI with
 |none=>
  rw[BE] at hq;cases hq;refine⟨λb w'=>b=false/\w'=w.drew,aq<|az (n:= -1) ?_<|aw rfl ⟨rfl,rfl⟩,?_⟩
  .have:=bH.lI h.drew;rwa[BE] at this
  rintro u _ w1 ⟨rfl,rfl⟩;exact aw rfl (pop h.drew)
 |some n=>
  rw[BE] at hq;obtain⟨es,zo,hq⟩:=bZ.1 hq;obtain⟨e,BF,DP,hG⟩:=hp.eC zo;have lh:∀{w':ao},V O (bH P k r*F) w'->w'.cell? ((aD k).add 7)=some (aa (n:Int)):=λhs=>by have:=bH.lI hs;rwa[BE] at this
  refine⟨λb w'=>b=decide ((r.eC:Int)<(e.l.length:Int))/\w'=w.drew,aq<|az (lh h.drew)<|aW (by simp)<|aq<|az (bH.cell h.drew (i:=8) rfl)<|aq<|aN (bH.cell h.drew (i:=1) rfl)<|aq<|az (lh h.drew)<|bH.row h.drew DP ⟨rfl,rfl⟩,?_⟩;rintro u _ w1 ⟨rfl,rfl⟩;split at hq
  .rename_i x hx;cases hq;rw[<-BF] at hx;have aQ:=(ct.1 hx).1;refine aW (by simp;omega)<|aq<|az (bH.cell h.drew (i:=8) rfl)<|aY (by omega) (by omega)<|aq<|bH.set h.drew (r':={r with eC:=r.eC+1}) (v:=aa ((r.eC:Int)+1)) (i:=8) (by decide) (by simp[eO]) rfl rfl rfl rfl rfl λw2 h2=> ?_;have h2:=h2.drew;have hc:w2.drew.cell? ((aD k).add 7)=some (aa (n:Int)):=by have:=bH.lI h2;rwa[BE] at this
   refine aq<|aN (bH.cell h2 (i:=1) rfl)<|aq<|az hc<|bH.row h2 DP<|aq<|az (n:=((r.eC+1:Nat):Int)) (bH.cell h2 (i:=8) rfl)<|aY (by omega) (by omega) ?_;have e1:((r.eC+1:Nat):Int)- 1=((r.eC:Nat):Int):=by omega
   show ba e.p e.l.length (((r.eC+1:Nat):Int)- 1) 1 _;rw[e1];exact bH.get h2 hG hx ⟨rfl,dt.aI hp (by rw[BE] at h2;exact h2)⟩
  .rename_i hx;cases hq;rw[<-BF,H6] at hx;exact aw (by simp;omega) (pop h.drew)
theorem R3 (r:fz):(rK r).waits.length<=r.waits.length/\(rK r).eY=r.eY/\(rK r).da=r.da/\(rK r).aj=r.aj:=by
 unfold rK;split
 .rename_i e;rw[e];exact⟨eJ _,rfl,rfl,rfl⟩
 .rename_i e;rw[e];exact⟨by simp,rfl,rfl,rfl⟩
theorem R4 {q:fz×Option Nat} (hq:xC r=some q):q.1.waits.length<=r.waits.length/\q.1.eY=r.eY/\q.1.da=r.da/\q.1.aj=r.aj:=by
 unfold xC at hq;split at hq
 .obtain⟨es,_,hq⟩:=bZ.1 hq;split at hq
  .cases hq;exact⟨eJ _,rfl,rfl,rfl⟩
  .cases hq;exact R3 r
 .cases hq;exact R3 r
theorem R5 {x:Nat} {r':fz} (hq:Dc r x=some r') (hl:r.waits.length<=5000) (h:V O (dt k r*F) w):ae 234 #[al k,aa (x:Int)] w λv w'=>v=aT/\V O (dt k r'*F) w':=by
 obtain⟨P,hp,h⟩:=dt.aK h;apply Zw;unfold Dc at hq;obtain⟨d,hd,hq⟩:=dd.1 hq;refine aq<|aN (bH.cell h (i:=2) rfl)<|bH.eU h hd ?_;split at hq
 .rename_i e;subst e hq;exact aw rfl ⟨rfl,dt.aI hp h⟩
 .rename_i e;subst hq;refine aW (by simpa using e)<|aq<|aN (bH.cell h (i:=2) rfl)<|bH.G8 h (ct.1 hd).1 λw1 h1=>aq<|aN (bH.cell h1 (i:=3) rfl)<|bH.LF rfl h1 (by show r.waits.length<=10000;omega) λP' w2 e1 e2 h2=>⟨rfl,dt.aI (hp.nc e1 e2 rfl) h2⟩
theorem ahf {r':fz} (hq:(xC r).bind Ko=some r') (h1:r.waits.length<=5000) (h2:r.eY.length<=5000) (h3:r.eC<=5000) (h:V O (dt k r*F) w):ae 143 #[al k] w λv w'=>v=aT/\V O (dt k r'*F) w':=by
 obtain⟨⟨q,o⟩,DQ,hq⟩:=bZ.1 hq;have wh:q.waits.length<=5000/\q.eY.length<=5000:=by obtain⟨f1,f2,_⟩:=R4 DQ;dsimp only at f1 f2;rw[f2];omega
 apply Zk;refine ay (R0 DQ h3 h) ?_;rintro _ w1 ⟨rfl,hR⟩;obtain⟨P,hp,h⟩:=dt.aK hR;dsimp only at hp h;clear hR;unfold Ko at hq;cases o with
 |some x=>
  dsimp only at hq;unfold Qt at hq;obtain⟨c,hc,hq⟩:=bZ.1 hq;obtain⟨d,hd,hq⟩:=dd.1 hq;refine⟨_,_,rfl,aW rfl<|aq<|aN (bH.cell h (i:=0) rfl)<|bH.cZ h hc ?_⟩;refine RJ rfl<|bH.agW h (ct.1 hc).1 λw2 h4=>aq<|aN (bH.cell h4 (i:=2) rfl)<|bH.eU h4 hd ?_;split at hq
  .rename_i e;subst e hq;refine aW rfl<|aq<|aN (bH.cell h4 (i:=2) rfl)<|bH.G8 h4 (ct.1 hd).1 λw3 h5=>aq<|aN (bH.cell h5 (i:=3) rfl)<|bH.LF rfl h5 (by show q.waits.length<=10000;omega) λP' w4 e1 e2 h6=>⟨rfl,dt.aI (hp.nc e1 e2 rfl) h6⟩
  .rename_i e;subst hq;exact aw (by simpa using e) ⟨rfl,dt.aI hp h4⟩
 |none=>
  dsimp only at hq;refine⟨_,_,rfl,aw rfl<|aq<|az (bH.lI h) ?_⟩;split at hq
  .rename_i n hn;cases hq;have h:=h.drew;rw[hn];refine aW (by simp[zn])<|aq<|aN (bH.cell h (i:=4) rfl)<|aq<|az (n:=(n:Int)) (by have:=bH.lI h;rwa[hn] at this)<|bH.agX rfl h (by omega) λP' w4 e1 e2 h6=>⟨rfl,dt.aI (hp.nc e1 e2 rfl) (by rw[hn] at h6;exact h6)⟩
  .rename_i hn;cases hq;rw[hn];exact aw rfl<|aq<|bH.set h (r':={q with mU:=1}) (i:=5) (v:=aa 1) (by decide) (by simp[eO]) rfl rfl rfl rfl rfl λw2 h2=>⟨rfl,dt.aI hp (by rw[hn] at h2;exact h2)⟩
theorem ahg {r':fz} (hq:(xC r).bind Kp=some r') (h1:r.waits.length<=5000) (h2:r.eY.length<=5000) (h3:r.eC<=5000) (h4:r.aj<=5000) (h:V O (dt k r*F) w):ae 144 #[al k] w λv w'=>v=aT/\V O (dt k r'*F) w':=by
 obtain⟨⟨q,o⟩,DQ,hq⟩:=bZ.1 hq;have wh:q.waits.length<=5000/\q.eY.length<=5000/\q.aj<=5000:=by obtain⟨f1,f2,f3,f4⟩:=R4 DQ;dsimp only at f1 f2 f4;rw[f2,f4];omega
 apply Zl;refine ay (R0 DQ h3 h) ?_;rintro _ w1 ⟨rfl,hR⟩;unfold Kp at hq;cases o with
 |some x=>refine⟨_,_,rfl,aW rfl<|ay (R5 hq wh.1 hR) ?_⟩;rintro _ w2 ⟨rfl,hR⟩;exact⟨rfl,rfl,hR⟩
 |none=>
  obtain⟨P,hp,h⟩:=dt.aK hR;dsimp only at hp h hq;clear hR;refine⟨_,_,rfl,aw rfl<|aq<|az (bH.lI h) ?_⟩;split at hq
  .rename_i n hn;cases hq;rw[hn];exact aW (by simp[zn]) ⟨rfl,dt.aI hp h⟩
  .rename_i hn;rw[hn];have h:=h.drew;refine aw rfl<|aq<|az (bH.cell h (i:=6) rfl)<|aq<|aN (bH.cell h (i:=4) rfl) ?_;split at hq
   .rename_i x hx;have aQ:=(ct.1 hx).1;obtain⟨c,hc,hq⟩:=bZ.1 hq;obtain⟨r1,fA,hq⟩:=dd.1 hq;cases hq;have h:=h.drew;refine aW (by simp;omega)<|aq<|aN (bH.cell h (i:=4) rfl)<|aq<|az (bH.cell h (i:=6) rfl)<|bH.eY h hx<|aq<|aN (bH.cell h (i:=0) rfl)<|bH.cZ h hc ?_;have fin:∀{w3:ao},r1.aj<=5000->V O (dt k r1*F) w3->nn (aU k) λLG=>ax .i64 (LG.add 6) w3 λn23=>arith .i64 (n23+1) λn24=>nn (aU k) λKX=>st (KX.add 6) (aa n24) w3 λw4=>(aT=aT/\V O (dt k {r1 with aj:=r1.aj+1}*F) w4):=by intro w3 ha hs;obtain⟨P1,sD,hs⟩:=dt.aK hs;exact aq<|az (n:=(r1.aj:Int)) (bH.cell hs (i:=6) rfl)<|aY (by omega) (by omega)<|aq<|bH.set hs (r':={r1 with aj:=r1.aj+1}) (i:=6) (v:=aa ((r1.aj:Int)+1)) (by decide) (by simp[eO]) rfl rfl rfl rfl rfl λw4 h4=>⟨rfl,dt.aI sD h4⟩
    split at fA
    .rename_i ss;have kL:r1.aj<=5000:=by unfold Dc at fA;obtain⟨d,_,e⟩:=dd.1 fA;split at e<;>subst e<;>exact wh.2.2
     refine aW (by simpa using ss)<|ay (R5 fA wh.1 (dt.aI hp h)) ?_;rintro _ w3 ⟨rfl,h5⟩;exact⟨rfl,fin kL h5⟩
    .rename_i ss;cases fA;exact aw (by simpa using ss) (fin wh.2.2 (dt.aI hp h))
   .rename_i hx;cases hq;rw[H6] at hx;exact aw (by simp;omega)<|aq<|bH.set h (r':={q with mU:=2}) (i:=5) (v:=aa 2) (by decide) (by simp[eO]) rfl rfl rfl rfl rfl λw2 h2=>aq<|bH.set h2 (r':={q with mU:=2,aj:=0}) (i:=6) (v:=aa 0) (by decide) (by simp[eO]) rfl rfl rfl rfl rfl λw3 h3=>⟨rfl,dt.aI hp h3⟩
theorem ahj {r':fz} (hq:Kq r=some r') (h1:r.da.length<=5000) (h2:r.aj<=5000) (h:V O (dt k r*F) w):ae 145 #[al k] w λv w'=>v=aT/\V O (dt k r'*F) w':=by
 obtain⟨P,hp,h⟩:=dt.aK h;apply Zm;unfold Kq at hq;have h:=h.drew;refine aq<|az (bH.cell h (i:=6) rfl)<|aq<|aN (bH.cell h (i:=2) rfl) ?_;split at hq
 .rename_i e;cases hq;exact aW (by simp[e])<|aq<|bH.set h (r':={r with mU:=3}) (i:=5) (v:=aa 3) (by decide) (by simp[eO]) rfl rfl rfl rfl rfl λw2 h2=>⟨rfl,dt.aI hp h2⟩
 .rename_i e;obtain⟨c,hc,hq⟩:=dd.1 hq;have h:=h.drew;refine aw (by simpa using λq=>e (by omega))<|aq<|aN (bH.cell h (i:=2) rfl)<|aq<|az (bH.cell h (i:=6) rfl)<|bH.eU h hc ?_;split at hq
  .rename_i e1;subst e1 hq;have h:=h.drew;refine aW rfl<|aq<|aN (bH.cell h (i:=2) rfl)<|aq<|az (bH.cell h (i:=6) rfl)<|bH.G8 h (ct.1 hc).1 λw2 h3=> ?_;have h3:=h3.drew;refine aq<|aN (bH.cell h3 (i:=9) rfl)<|aq<|az (bH.cell h3 (i:=6) rfl)<|bH.agY rfl h3 (by show r.da.length<=10000;omega) λP' w4 e1 e2 h6=>aq<|az (n:=(r.aj:Int)) (bH.cell h6 (i:=6) rfl)<|aY (by omega) (by omega)<|aq<|bH.set h6 (r':={r with eU:=r.eU.set r.aj 2,da:=r.da++[r.aj],aj:=r.aj+1}) (i:=6) (v:=aa ((r.aj:Int)+1)) (by decide) (by simp[eO]) rfl rfl rfl rfl rfl λw5 h7=>⟨rfl,dt.aI (hp.nc e1 e2 rfl) h7⟩
  .rename_i e1;subst hq;exact aw (by simpa using e1)<|aq<|az (n:=(r.aj:Int)) (bH.cell h (i:=6) rfl)<|aY (by omega) (by omega)<|aq<|bH.set h (r':={r with aj:=r.aj+1}) (i:=6) (v:=aa ((r.aj:Int)+1)) (by decide) (by simp[eO]) rfl rfl rfl rfl rfl λw5 h7=>⟨rfl,dt.aI hp h7⟩
theorem ahk {n:Nat} {r':fz} (hn:n<=2000000) (hq:za n r=some r') (h:V O (dt k r*F) w):ae 82 #[al k,aa (n:Int)] w λv w'=>v=aC (r'.mU==3)/\V O (dt k r'*F) w':=by
 apply Ze;refine aw rfl ⟨λi w' m=>∃j r1,i=((j:Nat):Int)/\j<=n/\m=n- j/\za (n- j) r1=some r'/\V O (dt k r1*F) w',⟨_,0,r,rfl,by omega,rfl,by simpa using hq,h⟩,?_⟩;clear h hq;rintro u _ w1 m ⟨j,r1,rfl,hj,rfl,hq,h⟩;refine bU (λaQ=> ?_) (λbW=> ?_)
 .obtain⟨P,hp,hO⟩:=dt.aK h;obtain⟨i,hi⟩:∃i,n- j=i+1:=⟨n- j- 1,by omega⟩;rw[hi] at hq;unfold za at hq;have hs:w1.cell? ((aD k).add 5)=some (aa r1.mU):=bH.cell hO rfl;refine aq<|az (n:=r1.mU) hs ?_;split at hq
  .rename_i e;cases hq;rw[e] at hs;rw[e];exact aw rfl<|aw rfl<|aw rfl<|aq<|az (n:=3) hs ⟨rfl,h⟩
  .rename_i e;obtain⟨r2,hu,hq⟩:=bZ.1 hq;unfold Qu at hu;split at hu
   .cases hu
   rename_i hb;have nx:∀{w2:ao},V O (dt k r2*F) w2->arith .i64 ((j:Int)+1) λn9=>∃DI,DI<n- j/\∃j r1,n9=((j:Nat):Int)/\j<=n/\DI=n- j/\za (n- j) r1=some r'/\V O (dt k r1*F) w2:=λh2=>aY (by omega) (by omega) ⟨n- (j+1),by omega,j+1,r2,by omega,by omega,rfl,by rw[show n- (j+1)=i by omega];exact hq,h2⟩;split at hu
   .rename_i e0;rw[e0];refine aW rfl<|ay (ahf hu (by omega) (by omega) (by omega) h) ?_;rintro _ w2 ⟨rfl,h2⟩;exact⟨rfl,nx h2⟩
   split at hu
   .rename_i e1;rw[e1];refine aw rfl<|aW rfl<|ay (ahg hu (by omega) (by omega) (by omega) (by omega) h) ?_;rintro _ w2 ⟨rfl,h2⟩;exact⟨rfl,nx h2⟩
   split at hu
   .rename_i e2;rw[e2];refine aw rfl<|aw rfl<|aW rfl<|ay (ahj hu (by omega) (by omega) h) ?_;rintro _ w2 ⟨rfl,h2⟩;exact⟨rfl,nx h2⟩
   .cases hu
 .have e:n- j=0:=by omega
  rw[e] at hq;have hq:r1=r':=by simpa[za] using hq
  subst hq;obtain⟨P,hp,hO⟩:=dt.aK h;exact aq<|az (n:=r1.mU) (bH.cell hO (i:=5) rfl) ⟨rfl,h⟩
end
section
variable {O w:ao} {F:HP}
theorem ahl {P:Program} {t e ty:TypeId} {z:Value} {bytes:Nat} (T:fe P t e z 1 bytes) {g:Nat} {q:av} {l c d:Nat} {xs cs:dB} {K:Int->ao->Prop} (h:V O (own e 1 (aU g) l c xs*F) w) (hr:Rd w 1 q l cs) (hq:q=none->d=0) (h1:∀u∈cs,u.oneCell'=true) (hk:∀w',V O (own e 1 (aU g) l c cs*F) w'->K l w'):H9 .i64 P (Builtin.copy_ #[t,t] ty #[af (aU g) l c,af q l d]) w K:=by
 obtain⟨i,hi,hz,gW,qm⟩:=T.parts;have j8:cs.length=l:=by have:=hr.1;omega
 cases q with
 |none=>
  have hl:l=0:=Nat.eq_zero_of_not_pos λhp=>by obtain⟨a,e⟩:=hr.2.1 hp;cases e
  have hd:=hq rfl;subst hl hd;have dT:cs=[]:=m5 j8;have wV:xs=[]:=m5 (by have:=h.left.so;omega);subst dT wV;exact⟨0,w,run_copy_nil P w t t ty e (aD g) 0 c T.under (by simp[hi]),hk w h⟩
 |some a=>
  have gJ:=h.left.po;have um:=h.left.so;rcases gJ.2 with⟨ep,hl⟩|⟨g',cap,cur,ep,_,hg,hc,oH,dT,Ao⟩
  .cases ep
  .cases ep;rw[jT] at dT;have eK:=run_copy_row P w t t ty e g 0 l c a l d cur e cs T.under (by simp[hi,gW]) hg (by simp[j8]) (hr.2.2 a rfl) (by omega) h1;refine⟨_,_,eK,?_⟩;rw[j8];refine hk _ ?_;refine h.yy (p':=some (aD g)) ⟨by omega,.inr ⟨g,c,_,rfl,pb _,setRow_heap w g cur _ e _ hg,hc,oH,?_,?_⟩⟩ ⟨rfl,rfl,rfl,by simp,λk _ hk=>setRow_other w g k _ (λe=>hk (by simp[Value.ownBlock,e]))⟩ (.inl rfl)
   .simp;omega
   .simp[j8]
variable {k:Nat} {r:fz} {P:we}
theorem ahm (hs:r.mU=3) (hl:r.da.length<=100000) (h:V O (dt k r*F) w):ae 83 #[al k] w λv w'=>∃q d,v=af q r.da.length d/\V O (own 3 1 q r.da.length d (dx r.da)*(dt k r*F)) w':=by
 obtain⟨P,hp,h⟩:=dt.aK h;apply Zf;have h5:w.cell? ((aD k).add 5)=some (aa 3):=by have:=bH.cell h (i:=5) rfl;rw[this];simp[eO,hs]
 refine aw rfl<|aq<|az (n:=3) h5<|aw rfl<|aq<|aN (bH.cell h (i:=9) rfl)<|xJ nR h (eJ _) (by omega) (by omega) λb w1 h1=> ?_;have hz:(fX (aa 0) r.da.length).length=r.da.length:=by rw[DB];simp[cO]
 have h2:=h1.lx (t:=3) (sz:=1) (n:=r.da.length) (by simpa using hz) (by simp only[maxLen];omega);have h3:=h2.right;have hF:=(bH.at h3).right.right.right.right.right.right.right.left;refine aq<|aN (bH.cell h3 (i:=9) rfl)<|ahl nR h2 hF.rd ?_ (agV _) λw2 h4=>⟨_,_,rfl,(dt.aI hp h4.p1).p1⟩;intro e;rw[e] at hF;rcases hF.po.2 with⟨e',_⟩|⟨g,cap,cur,e',_⟩
 .simp only[Value.slice.injEq] at e';exact e'.2.2
 .simp at e'
def gD (n:Nat) (l:aJ):List Nat:=l.filterMap λk=>if 0<=k/\k<(n:Int) then some k.toNat else none
structure G9 where
 l:aJ
 p:av
 c:Nat
def LH (e:G9):dB:=[af e.p e.l.length e.c]
theorem ahn (e:G9):(LH e).length=1:=rfl
theorem R6:fe au 255 167 aP 1 24:=⟨by kernel_rfl,by kernel_rfl,rfl,by decide⟩
def rQ (pc:av) (i cc:Nat) (pe:av) (n:Nat) (pl:av):aM:=#[af pc i cc,af pe n n,af pl n n,aP,aP,aa 0,aa 0,aa (-1),aa 0,aP]
def zp:wb:=⟨[],none,0⟩
theorem LI (n:Nat):fX aP n=(List.replicate n zp).flatMap oh:=by
 simp[fX,wW,Value.cells,oh,zp];induction n with
 |zero=>rfl
 |succ m ih=>rw[List.range_succ,nF,ih,List.replicate_succ',sW];simp[Nat.mod_one];rfl
theorem R7 (n:Nat) (l:aJ) (k:Int):gD n (l++[k])=gD n l++(if 0<=k/\k<(n:Int) then [k.toNat] else []):=by unfold gD;rw[List.filterMap_append];congr 1;by_cases h:0<=k/\k<(n:Int)<;>simp[h]
theorem aho (n:Nat) (l:aJ):(gD n l).length<=l.length:=Ez _ _
def pM (cZ:aJ) (lH:List (List Nat)) (n j:Nat):fz:=⟨cZ,lH,List.replicate j 1++List.replicate (n- j) 0,List.range j,[],0,0,none,0,[]⟩
theorem ahp {α:Type} {f:α->dB} {t:TypeId} {p:av} {l c i:Nat} {ys:List α} {y y':α} {v:Value} {K:ao->Prop} (hf:∀y,(f y).length=1) (hy:ys[i]?=some y) (hv:f y'=[v]) (h:V O (aE t 1 f p l c ys*F) w) (hk:∀w',V O (aE t 1 f p l c (ys.set i y')*F) w'->K w'):ba p l (i:Int) 1 λa=>st a v w K:=by
 have aQ:=(ct.1 hy).1;have hl:=td hf ys;refine LD (h:V O (own t 1 p l c (ys.flatMap f)*F) w) (by omega) λw' h'=>hk w' ?_;have e:=IN hf (y':=y') (j:=0) (v:=v) hy (by decide) (by
  have:=hf y;rw[hv];match f y,this with
  |[_],_=>rfl)
 rw[jT,sZ] at e;rw[e] at h';exact h'
theorem ahq {n:Nat} {pc pe x1:av} {cc ce z1:Nat} {cZ:aJ} {bj:List G9} (DR:cZ.length=n) (hn:bj.length=n) (hb:n<=5000) (hc:∀c∈cZ,0<=c/\c<=4294967295) (tu:∀e∈bj,e.l.length<=5000) (g1:bd F 1 pc n (wa cZ)) (g2:bd F 1 pe n (bj.flatMap LH)) (g3:∀e∈bj,bd F 1 e.p e.l.length (cO e.l)) (g4:bd F 1 x1 n (dx (List.range n))) (h:V O F w): ae 81 #[an #[af pc n cc,af pe n ce],af x1 n z1] w λv w'=>∃k,v=al k/\V O (dt k (rJ cZ (bj.map λe=>gD n e.l))*F) w':=by
 apply Zd;refine aG h λk1 w1 h1=>aN (aB h1 (i:=0) rfl) ?_;have R8:∀m,(fX aP m).length=m:=λm=>by rw[LI,td G7];simp
 have R9:∀m,(fX (aa 0) m).length=m:=λm=>by rw[DB];simp[cO]
 refine⟨λp w'=>∃k6 mY pl,p=some (aD k6)/\V O (ab k6 (rQ none 0 0 mY n pl) 356*(aE 167 1 oh mY n n (List.replicate n zp)*(own 3 1 pl n n (cO (List.replicate n 0))*(ab k1 #[af pc n cc,af pe n ce] 257*F)))) w',⟨?_,?_⟩,?_⟩
 .refine xJ R6 h1.drew (eJ _) (by omega) (by omega) λb w2 h2=>xJ nR h2 (eJ _) (by omega) (by omega) λb' w3 h3=>aG h3 λk6 w4 h4=>⟨k6,some (aD b),some (aD b'),rfl,?_⟩;have h5:=(h4.p1).lx (t:=3) (sz:=1) (n:=n) (by simpa using R9 n) (by simp only[maxLen];omega);have h6:=(h5.p2).lx (t:=167) (sz:=1) (n:=n) (by simpa using R8 n) (by simp only[maxLen];omega);rw[LI] at h6;rw[DB] at h6;exact h6.aF (by unfold aE rQ;ac_rfl)
 .refine xJ nR h1.drew (eJ _) (by omega) (by omega) λb w2 h2=>xJ R6 h2 (eJ _) (by omega) (by omega) λb' w3 h3=>aG h3 λk6 w4 h4=>⟨k6,some (aD b'),some (aD b),rfl,?_⟩;have h5:=(h4.p1).lx (t:=167) (sz:=1) (n:=n) (by simpa using R8 n) (by simp only[maxLen];omega);have h6:=(h5.p2).lx (t:=3) (sz:=1) (n:=n) (by simpa using R9 n) (by simp only[maxLen];omega);rw[LI] at h6;rw[DB] at h6;exact h6.aF (by unfold aE rQ;ac_rfl)
 clear h1 h;rintro u _ w8 ⟨k6,mY,pl,rfl,h8⟩;refine aN (aB h8.p3 (i:=0) rfl) ?_;refine⟨λx w' m=>∃(i:Nat) (zq:av) (zr:Nat) (es:List wb) (H:HP),x=i/\i<=n/\m=n- i/\es.length=n/\es.map (·.l)=(bj.take i).map (λe=>gD n e.l)++List.replicate (n- i) []/\(∀e∈es,bd H 1 e.p e.l.length (dx e.l))/\(∀j e,i<=j->es[j]?=some e->e=zp)/\V O (ab k6 (rQ zq i zr mY n pl) 356*(own 2 1 zq i zr (cO (cZ.take i))*(aE 167 1 oh mY n n es*(H*(own 3 1 pl n n (cO (List.replicate n 0))*(ab k1 #[af pc n cc,af pe n ce] 257*F)))))) w',⟨_,0,none,0,List.replicate n zp,Sp.cW,rfl,by omega,rfl,by simp,by simp[zp],λe he=>by rw[(List.mem_replicate.1 he).2];exact bd.nil _ _ _,λj e _ he=>by rw[List.getElem?_replicate] at he;split at he<;>cases he;rfl,?_⟩,?_⟩
 .exact(h8.cQ.iZ 2 1).aF (by show own 2 1 none 0 0 []*_=_;ac_rfl)
 clear h8;rintro u _ w9 m ⟨i,zq,zr,es,H,rfl,hi,rfl,BF,Hb,hH,hz,h9⟩;refine bU (λaQ=> ?_) (λbW=> ?_)
 .have dV:i<n:=by omega
  have hx:cZ[i]?=some (cZ[i]'(by omega)):=by simp[show i<cZ.length by omega]
  have oH:cZ[i]'(by omega)∈cZ:=sd _;generalize cZ[i]'(by omega)=x at hx oH;obtain⟨x0,x9⟩:=hc x oH;have hr:bj[i]?=some (bj[i]'(by omega)):=by simp[show i<bj.length by omega]
  have yW:bj[i]'(by omega)∈bj:=sd _;generalize bj[i]'(by omega)=e at hr yW;have eB:=tu e yW;have hF:∀{w':ao} {A B C D E G:HP},V O (A*(B*(C*(D*(E*(G*F)))))) w'->V O F w':=λhs=>hs.right.right.right.right.right.right;have xS:=g1 _ _ (hF h9);refine fM xS (by omega) (by omega) λa ha=>az (n:=x) ?_<|aq<|aN (aB h9 (i:=0) rfl)<|aY (by omega) (by omega)<|aG h9 λsu dn aV=>oG Ra aV.p2.p1 rfl (by simp only[maxLen];omega) (by omega) λwi wj dP bu=>aq<|bD (i:=0) bu.p1 (by simp[rQ]) λfF bA=> ?_
  .rw[cu,jT];exact xS.get ha (by simp[wa,hx])
  have e1:(rQ zq i zr mY n pl).setIfInBounds 0 (af wi (i+1) wj)=rQ wi (i+1) wj mY n pl:=by simp[rQ]
  have e2:cO (cZ.take i)++[aa x]=cO (cZ.take (i+1)):=by rw[xO hx];simp[cO]
  rw[e1,e2] at bA;have hei:es[i]?=some zp:=by
   have q:es[i]?=some (es[i]'(by omega)):=by simp[show i<es.length by omega]
   rw[q,hz i _ (eJ _) q]
  have oV:∀{w':ao} {A B C D E:HP},V O (A*(B*(C*(D*(E*(ab k1 #[af pc n cc,af pe n ce] 257*F)))))) w'->w'.cell? ((aD k1).add 1)=some (af pe n ce):=λhs=>aB hs.right.right.right.right.right (i:=1) rfl;have ahs:=bA;refine aN (oV bA)<|aw (by simp;omega)<|aN (oV bA)<|kZ ahn (by decide) (g2 _ _ (hF bA)) (by omega) (by rw[cu];exact hr) λR1 aht=>aN (by simpa[Sp.add_zero] using aht 0 _ rfl) ?_;refine⟨λy w' m=>∃(j:Nat) (q:av) (d:Nat),y=j/\j<=e.l.length/\m=e.l.length- j/\V O (ab k6 (rQ wi (i+1) wj mY n pl) 356*(own 2 1 wi (i+1) wj (cO (cZ.take (i+1)))*(aE 167 1 oh mY n n (es.set i ⟨gD n (e.l.take j),q,d⟩)*(own 3 1 q (gD n (e.l.take j)).length d (dx (gD n (e.l.take j)))*(H*(own 3 1 pl n n (cO (List.replicate n 0))*(ab k1 #[af pc n cc,af pe n ce] 257*F))))))) w',⟨_,0,none,0,rfl,by omega,rfl,?_⟩,?_⟩
  .have e3:es.set i ⟨gD n (e.l.take 0),none,0⟩=es:=by
    obtain⟨hl,he⟩:=ct.1 hei;have:(⟨gD n (e.l.take 0),none,0⟩:wb)=es[i]:=by rw[he];rfl
    rw[this,EE]
   rw[e3];exact(bA.iZ 3 1).aF (by show own 3 1 none 0 0 []*_=_;simp only[qT];show _=_*(_*(_*(own 3 1 none 0 0 []*_)));ac_rfl)
  clear bA ahs bu aV h9;rintro u _ fZ m ⟨j,q,d,rfl,hj,rfl,bN⟩;refine bU (λaQ=> ?_) (λbW=> ?_)
  .have hk:e.l[j]?=some (e.l[j]'(by omega)):=by simp[show j<e.l.length by omega]
   generalize e.l[j]'(by omega)=kk at hk;have xS:=g3 e yW _ _ bN.right.right.right.right.right.right.right;have vV:=aho n (e.l.take j);rw[fB] at vV;refine fM xS (by omega) (by omega) λa ha=>az (n:=kk) ?_ ⟨λb w'=>b=decide (0<=kk/\kk<(n:Int))/\w'=fZ,bU (λq=>⟨by simp[q],rfl⟩) (λq=>⟨by simp;intro;omega,rfl⟩),?_⟩
   .rw[cu,jT];exact xS.get ha (LB hk)
   rintro u _ dH ⟨rfl,rfl⟩;have Sa:(es.set i ⟨gD n (e.l.take j),q,d⟩)[i]?=some ⟨gD n (e.l.take j),q,d⟩:=by simp[jR,show i<es.length by omega]
   refine bU (λdV=> ?_) (λqg=> ?_)
   .have bN:=bN.drew;have gJ:∀{K:av->Nat->Nat->Prop},K q (gD n (e.l.take j)).length d->ba mY n (i:Int) 1 λa46=>aL a46 dH.drew K:=λhK=>kZ (w:=dH.drew) G7 (by decide) bN.p2.left.rd (by omega) (by rw[cu];exact Sa) λa ha=>aN (by simpa[Sp.add_zero] using ha 0 _ rfl) hK;refine aq<|aN (aB bN (i:=1) rfl)<|aq<|aN (aB bN (i:=1) rfl)<|gJ<|aG bN λk48 kQ bY=> ?_;have bY:V O (ab k48 #[aa kk] 3*(own 3 1 q (gD n (e.l.take j)).length d (dx (gD n (e.l.take j)))*(ab k6 (rQ wi (i+1) wj mY n pl) 356*(own 2 1 wi (i+1) wj (cO (cZ.take (i+1)))*(aE 167 1 oh mY n n (es.set i ⟨gD n (e.l.take j),q,d⟩)*(H*(own 3 1 pl n n (cO (List.replicate n 0))*(ab k1 #[af pc n cc,af pe n ce] 257*F)))))))) kQ:=bY.p4.p1;refine oG nR bY rfl (by simp only[maxLen];omega) (by omega) λzl zm nM cE=>⟨aB cE.p1 (i:=1) rfl,?_⟩;have cE:V O (aE 167 1 oh mY n n (es.set i ⟨gD n (e.l.take j),q,d⟩)*(own 3 1 zl ((gD n (e.l.take j)).length+1) zm (dx (gD n (e.l.take j))++[aa kk])*(ab k6 (rQ wi (i+1) wj mY n pl) 356*(own 2 1 wi (i+1) wj (cO (cZ.take (i+1)))*(H*(own 3 1 pl n n (cO (List.replicate n 0))*(ab k1 #[af pc n cc,af pe n ce] 257*F))))))) nM:=cE.p3;have ek:gD n (e.l.take (j+1))=gD n (e.l.take j)++[kk.toNat]:=by rw[xO hk,R7,if_pos dV]
    refine ahp G7 (y':=⟨gD n (e.l.take (j+1)),zl,zm⟩) Sa ?_ cE λnN df=>aY (by omega) (by omega) ⟨_,?_,j+1,zl,zm,by omega,by omega,rfl,?_⟩
    .simp[oh,ek]
    .omega
    .rw[jF] at df;have en:dx (gD n (e.l.take j))++[aa kk]=dx (gD n (e.l.take (j+1))):=by
      rw[ek];have:((kk.toNat:Nat):Int)=kk:=by omega
      simp[dx,this]
     have el:(gD n (e.l.take j)).length+1=(gD n (e.l.take (j+1))).length:=by rw[ek];simp
     rw[en,el] at df;exact df.p3.p3
   .have ek:gD n (e.l.take (j+1))=gD n (e.l.take j):=by rw[xO hk,R7,if_neg qg,jS]
    refine aY (by omega) (by omega) ⟨_,?_,j+1,q,d,by omega,by omega,rfl,?_⟩
    .omega
    .rw[ek];exact bN
  .have ej:j=e.l.length:=by omega
   subst ej;rw[j4] at bN;refine aY (by omega) (by omega) ⟨_,?_,i+1,wi,wj,es.set i ⟨gD n e.l,q,d⟩,own 3 1 q (gD n e.l).length d (dx (gD n e.l))*H,by omega,by omega,rfl,by simpa using BF,?_,?_,?_,bN.aF (by ac_rfl)⟩
   .omega
   .rw[wK,Hb,xO hr,nF];have ahw:((bj.take i).map λe=>gD n e.l).length=i:=by simp;omega
    rw[lp _ _ (by omega),ahw,yl];obtain⟨m,hm⟩:∃m,n- i=m+1:=⟨n- i- 1,by omega⟩;have qc:n- (i+1)=m:=by omega
    rw[hm,qc,Cb];simp
   .intro z Hc;rcases pS Hc with q'|rfl
    .exact(hH z q').right
    .exact bd.left bd.own
   .intro jj z hjj Hc;rw[List.getElem?_set_ne (by omega)] at Hc;exact hz jj z (by omega) Hc
 have ei:i=n:=by omega
 subst ei;have hct:cZ.take i=cZ:=by rw[<-DR,j4]
 have IW:bj.take i=bj:=by rw[<-hn,j4]
 rw[hct] at h9;rw[IW,yl,EH,jS] at Hb;obtain⟨lH,ahy⟩:∃lH,bj.map (λe=>gD i e.l)=lH:=⟨_,rfl⟩;rw[ahy] at Hb ⊢;have eK:V O (dt k6 (pM cZ lH i 0)*(ab k1 #[af pc i cc,af pe i ce] 257*F)) w9:=by
  refine dt.aI (P:=⟨zq,zr,mY,i,pl,i,none,0,none,0,none,0,es,H⟩) ⟨Hb,hH⟩ (bH.mk ?_);have e1:eO ⟨zq,zr,mY,i,pl,i,none,0,none,0,none,0,es,H⟩ (pM cZ lH i 0)=rQ zq i zr mY i pl:=by simp[eO,rQ,pM,DR,BF,zn]
  rw[e1];have aV:=P9 3 (h9.iZ 3 1|>.iZ 3 1);refine aV.aF ?_;simp only[pM,DR,BF,gp,List.length_replicate,EH,m8,Nat.sub_zero,List.range_zero,yk];show jx 3 none 0 0 []*(own 3 1 none 0 0 []*(own 3 1 none 0 0 []*_))=_*(_*(_*(_*(_*(jx 3 none 0 0 []*(own 3 1 none 0 0 []*(own 3 1 none 0 0 []*_)))))));ac_rfl
 refine⟨λx w' m=>∃j:Nat,x=j/\j<=i/\m=i- j/\V O (dt k6 (pM cZ lH i j)*(ab k1 #[af pc i cc,af pe i ce] 257*F)) w',⟨_,0,rfl,by omega,rfl,eK⟩,?_⟩;clear eK h9;rintro u _ dn m ⟨j,rfl,hj,rfl,aV⟩;refine bU (λaQ=> ?_) (λbW=>⟨k6,rfl,?_⟩)
 .have xS:=g4 _ _ aV.right.right;obtain⟨P,hp,hO⟩:=dt.aK aV;have Sb:(pM cZ lH i j).eU[j]?=some 0:=by simp[pM,ix,List.getElem?_replicate];omega
  refine fM xS (by omega) (by omega) λa ha=>az (n:=(j:Int)) ?_ ⟨λb w'=>b=true/\w'=dn,aW (by simp)<|aW (by simp;omega)<|aq<|aN (bH.cell hO (i:=2) rfl)<|bH.eU hO Sb ⟨rfl,rfl⟩,?_⟩
  .rw[cu,jT];exact xS.get ha (G6 (j:=j) (n:=j) (zM (by omega)))
  rintro u _ dP ⟨rfl,rfl⟩;refine aW rfl<|aq<|aN (bH.cell hO (i:=2) rfl)<|bH.G8 hO (ct.1 Sb).1 λfF bA=>aq<|aN (bH.cell bA (i:=3) rfl)<|bH.LF rfl bA (by simp[pM];omega) λP' fZ e1 e2 bN=>aY (by omega) (by omega) ⟨_,?_,j+1,by omega,by omega,rfl,?_⟩
  .omega
  .have er:({{pM cZ lH i j with eU:=(pM cZ lH i j).eU.set j 1} with waits:=(pM cZ lH i j).waits++[j]}:fz)=pM cZ lH i (j+1):=by
    simp only[pM,fz.mk.injEq,true_and,and_true];refine⟨?_,?_⟩
    .obtain⟨m,hm⟩:∃m,i- j=m+1:=⟨i- j- 1,by omega⟩;have qc:i- (j+1)=m:=by omega
     rw[hm,qc,lp _ _ (by simp),List.length_replicate,yl,Cb,Cd,List.replicate_succ'];simp
    .rw[List.range_succ]
   rw[<-er];exact dt.aI (hp.nc e1 e2 rfl) bN
 .have ej:j=i:=by omega
  subst ej;have eb:pM cZ lH j j=rJ cZ lH:=by simp only[pM,rJ,yl,EH,jS,DR,fz.mk.injEq,true_and,and_true];rw[<-DR];exact List.map_const'.symm
  rw[eb] at aV;exact aV.p1.right
end
end Go.Proofs.YtjhnnnfnkjighaaGreatDoor
namespace Go.Proofs.YtjhnnnfnkjighaaGreatDoor.Rf
open Go.Proofs.YtjhnnnfnkjighaaGreatDoor
open Go.Sp Go.RowKit
abbrev GE:=kX
def zt (l:aJ):aJ:=(l++dW).take 16
theorem LJ (l:aJ):(zt l).length=16:=by simp[zt,dW]
theorem Sc {l:aJ} (h:l.length=16):zt l=l:=by rw[zt,sU (by omega),eW (by omega)]
def bP (e:GE):dB:=[aa e.lk.1,ah e.lk.2]++(bc (zt e.bm)++[aH e.cn])
theorem dJ (e:GE):(bP e).length=19:=by simp[bP,dh,LJ]
theorem xH (e:GE):∀u∈bP e,u.oneCell'=true:=by
 intro u hu;rcases fj.1 hu with hu|hu
 .simp at hu;rcases hu with rfl|rfl<;>rfl
 .rcases fj.1 hu with hu|hu
  .exact jt _ u hu
  .simp at hu;subst hu;rfl
def cx:GE:=J9
def bl (y:bK GE):dB:=bP y.x++[aH y.g,aC (y.st==1)]
theorem bE (y:bK GE):(bl y).length=21:=by simp[bl,dJ]
theorem kT (y:bK GE):∀u∈bl y,u.oneCell'=true:=by
 intro u hu;rcases fj.1 hu with hu|hu
 .exact xH _ u hu
 .simp at hu;rcases hu with rfl|rfl<;>rfl
theorem mW (y:bK GE):(bl y)[19]?=some (aH y.g):=by rw[bl,ix (by rw[dJ];decide),dJ];rfl
theorem zd (y:bK GE):(bl y)[20]?=some (aC (y.st==1)):=by rw[bl,ix (by rw[dJ];decide),dJ];rfl
theorem Dq (x:GE) (g g' st:Int):bl ⟨x,g',st⟩=(bl ⟨x,g,st⟩).set 19 (aH g'):=by rw[bl,bl,lp _ _ (by rw[dJ];decide),dJ];rfl
theorem tM (x:GE) (g st dg:Int) {b:Bool} (hb:(dg==1)=b):bl ⟨x,g,dg⟩=(bl ⟨x,g,st⟩).set 20 (aC b):=by subst hb;rw[bl,bl,lp _ _ (by rw[dJ];decide),dJ];rfl
theorem sK (x y:GE) (g st:Int):bl ⟨x,g,st⟩=(bl ⟨y,g,st⟩).take 0++((bP x).toArray).toList++(bl ⟨y,g,st⟩).drop (0+19):=by rw[bl,bl,qT,m8,dc,ub,dJ,mJ (by rw[dJ];exact eJ _)];rfl
theorem uU (y:bK GE):((bl y).drop 0).take 19=bP y.x:=by rw[bl,m9,sU (by rw[dJ];exact eJ _),eW (by rw[dJ];exact eJ _)]
theorem dw (e:GE):((bP e).toArray).size=19:=by simp[dJ]
theorem fJ (e:GE):∀u∈((bP e).toArray).toList,u.oneCell'=true:=xH e
def Ar (a:Nat) (s:AS GE):HP:=ex λp=>ex λl=>ex λc=>ex λq=>ex λm=>ex λd=>
 ab a #[aa s.aR,aH s.first,af p l c,af q m d,aa s.bn] 212*(aE 415 21 bl p l c s.sp*aE 3 1 dm q m d s.fr)
theorem Ar.aK {O w:ao} {F:HP} {a:Nat} {s:AS GE} (h:V O (Ar a s*F) w):∃p c q d,V O (ab a #[aa s.aR,aH s.first,af p s.sp.length c,af q s.fr.length d,aa s.bn] 212*(aE 415 21 bl p s.sp.length c s.sp*(aE 3 1 dm q s.fr.length d s.fr*F))) w:=by obtain⟨p,h⟩:=V.ex h;obtain⟨l,h⟩:=V.ex h;obtain⟨c,h⟩:=V.ex h;obtain⟨q,h⟩:=V.ex h;obtain⟨m,h⟩:=V.ex h;obtain⟨d,h⟩:=V.ex h;have h:=h.a.p1.a.p2;have e1:=nK bE (by decide) h.right.left;have e2:=nK iN (by decide) h.right.right.left;subst e1 e2;exact⟨p,c,q,d,h⟩
theorem Ar.aI {O w:ao} {F:HP} {a l m:Nat} {aR first:Int} {sp:List (bK GE)} {fr:List Nat} {bn:Nat} {p q:av} {c d:Nat} (h:V O (ab a #[aa aR,aH first,af p l c,af q m d,aa bn] 212*(aE 415 21 bl p l c sp*(aE 3 1 dm q m d fr*F))) w):V O (Ar a ⟨aR,first,sp,fr,bn⟩*F) w:=V.bO p (V.bO l (V.bO c (V.bO q (V.bO m (V.bO d (h.aF (by ac_rfl)))))))
theorem tA {O w:ao} {F:HP} {aR first:Int} (h:V O F w) (h0:1<=aR) (h1:aR<=65536) (h2:first≠0): ae 40 #[aa aR,aH first] w λv w'=>∃a,v=ak #[al a,aa 0]/\V O (Ar a ⟨aR,first,[],[],0⟩*F) w':=by apply W7;exact aw (by simp;omega)<|aw (by simp;omega)<|aw (by simp;exact h2)<|aG h λb w2 h2=>⟨b,rfl,Ar.aI (l:=0) (m:=0) ((fE 415 21 bl (fE 3 1 dm h2)).aF (by ac_rfl))⟩
theorem sE {h:Int} (h0:0<=h) (h1:h<=18446744073709551615):kN au 274 #[ah h] (ak #[aa (h%4294967296- 1),aH (h/ 4294967296)]):=by
 intro w;apply Am;refine Aq<|aY (by omega) (by omega)<|aY (by omega) (by omega)<|uq (by omega) (by simp only[IntKind.bits];omega) ?_;have e:(2:Int)^(32:Int).toNat=4294967296:=by decide
 rw[e];exact gX (by omega) (by omega) ⟨rfl,rfl⟩
theorem tB {i:Nat} {g:Int} (hi:i<4294967295) (h0:0<=g) (h1:g<=4294967295):gr .or .u64 (g*2^32) ((i:Int)+1)=hd i g:=by
 obtain⟨n,rfl⟩:∃n:Nat,g=n:=⟨g.toNat,by omega⟩;have:=Go.Sp.yE (x:=i+1) (b:=n) (i:=32) (by omega) (by omega) (by omega);have e1:((n*2^32:Nat):Int)=(n:Int)*2^32:=by simp
 rw[e1] at this;rw[show(i:Int)+1=((i+1:Nat):Int) by omega,this,hd];omega
theorem kV {i:Nat} {g:Int} (hi:i<4294967295) (h0:0<=g) (h1:g<=4294967295):kN au 62 #[aa i,aH g] (ah (hd i g)):=by intro w;apply Al;refine fx (by omega) (by omega)<|yF (n:=32) (by omega) (by omega) (by omega)<|aY (by omega) (by omega)<|fx (by omega) (by omega) ?_;rw[tB hi h0 h1];exact⟨rfl,rfl⟩
theorem nk {O w:ao} {F:HP} {a c:Nat} {s:AS GE} {p q:av} {m d:Nat} {h:Int} (hh:V O (ab a #[aa s.aR,aH s.first,af p s.sp.length c,af q m d,aa s.bn] 212*(aE 415 21 bl p s.sp.length c s.sp*F)) w) (h0:0<=h) (h1:h<=18446744073709551615): ae 187 #[al a,ah h] w λv w'=>w'=w/\ match find s h with
   |none=>v=ak #[ag none,aa 0]
   |some i=>∃g,p=some (aD g)/\v=ak #[ag (some ⟨g,i*21,none⟩),aa i]:=by
 apply Xi;have hc:w.cell? ⟨a,2,none⟩=some (af p s.sp.length c):=hh.left.cell (i:=2) rfl;refine fY (sE h0 h1) ⟨_,_,rfl,aw rfl<|bU (λaQ=> ?_) (λbW=>aq<|aN hc<|bU (λxg=> ?_) (λoJ=>aq<|aN hc ?_))⟩
 .rw[find,if_pos (by omega)];exact⟨rfl,rfl⟩
 .rw[find,if_neg (by omega),ua (by omega)];exact⟨rfl,rfl⟩
 .obtain⟨y,hy⟩:∃y,s.sp[(h%4294967296- 1).toNat]?=some y:=⟨s.sp[(h%4294967296- 1).toNat]'(by omega),by simp⟩;have hT:=hh.right.left;refine dC bE hT (by decide) (by omega) hy λg hg=>gQ (cU bE (j:=20) hT hg hy (by decide) (zd y))<|cy (λhb=> ?_) (λhb=>az (cU bE (j:=19) hT hg hy (by decide) (mW y))<|cy (λhn=> ?_) (λhn=> ?_))
  .have hb:y.st≠1:=by simpa using hb
   rw[find,if_neg (by omega),hy];simp[hb]
  .have hn:y.g≠h/ 4294967296:=by simpa using hn
   rw[find,if_neg (by omega),hy];simp[hn]
  .have hb:y.st=1:=by simpa using hb
   have hn:y.g=h/ 4294967296:=by simpa using hn
   rw[find,if_neg (by omega),hy];simp only[hb,hn,and_self,if_true];refine⟨trivial,g,hg,?_⟩;rw[zN (by omega)]
theorem tC {O w:ao} {F:HP} {a:Nat} {s:AS GE} {h:Int} (hh:V O (Ar a s*F) w) (hs:bx s) (h0:0<=h) (h1:h<=18446744073709551615): ae 124 #[al a,ah h] w λv w'=>V O (Ar a s*F) w'/\ match(find s h).bind (s.sp[·]?) with
   |none=>v=ak #[an (bP cx).toArray,aa 2]
   |some y=>v=ak #[an (bP y.x).toArray,aa 0]:=by
 apply Xg;refine aG hh λk w1 h2=> ?_;obtain⟨p,c,q,d,h3⟩:=Ar.aK (h2.p1);refine ay (nk h3 h0 h1) ?_;rcases FY hs h with⟨hf,hb⟩|⟨i,y,hf,hy,h1,hb⟩
 .rw[hb,hf];rintro _ w2 ⟨rfl,rfl⟩;refine⟨_,_,rfl,aW rfl<|aG h2 λk2 w3 h4=>bz h4 rfl<|bL (h4.p1) rfl rfl (fJ cx) λw4 h5=>bz h5 rfl ⟨h5.right.right,rfl⟩⟩
 .rw[hb,hf];rintro _ w2 ⟨rfl,g,hg,rfl⟩;have h6:=h3.aF (B:=ab k (bP cx).toArray 141*(aE 415 21 bl p s.sp.length c s.sp*(ab a #[aa s.aR,aH s.first,af p s.sp.length c,af q s.fr.length d,aa s.bn] 212*(aE 3 1 dm q s.fr.length d s.fr*F)))) (by show ab a _ _*(aE _ _ _ _ _ _ _*(aE _ _ _ _ _ _ _*(ab k (bP cx).toArray 141*F)))=_;ac_rfl);refine⟨_,_,rfl,aw rfl<|aq<|wZ bE (o:=0) (n:=19) h6.right.left hg hy (by decide) (uU y)<|bL h6 rfl (dw _) (fJ _) λw4 h5=>bz h5 (dw _) ⟨Ar.aI h5.right.p1,rfl⟩⟩
theorem nT:fe au 210 415 (an (bl ⟨cx,0,0⟩).toArray) 21 48:=⟨by kernel_rfl,by kernel_rfl,by simp[Value.cells,bE],by decide⟩
theorem tD {O w:ao} {F:HP} {a:Nat} {s:AS GE} {x:GE} (h:V O (Ar a s*F) w) (hs:bx s): ae 282 #[al a,an (bP x).toArray] w λv w'=>v=ak #[ah (put s x).2.1,aa (put s x).2.2]/\V O (Ar a (put s x).1*F) w':=by
 apply Xv;refine aG h λk1 Dr h=> ?_;obtain⟨p,c,q,d,h⟩:=Ar.aK (h.p1);generalize nZ:ab k1 (bP x).toArray 141*F=F' at h;have kx:∀{w A B C},V O (A*(B*(C*F'))) w->∀{K},K (bP x).toArray->aA (aD k1) 19 w K:=by intro w A B C h K hk;rw[<-nZ] at h;exact bz h.right.right.right (dw _) hk
 have fin:∀{w a s},V O (Ar a s*F') w->V O (Ar a s*F) w:=by intro w a s h;rw[<-nZ] at h;exact h.p1.right
 have hl:=hs.len;have hm:=hs.ie;have hb:=hs.lE;refine aw rfl<|aq<|aN (h.left.cell (i:=2) rfl) ?_;rcases nQ hs x with⟨fr,i,y,cv,hy,dk,bt⟩|⟨cv,fy,bt⟩|⟨cv,fy,bt⟩
 .have aQ:=(ct.1 hy).1;have hg:=hs.g y (dF hy);have iQ:s.fr.length=fr.length+1:=by simp[cv]
  refine⟨λn w=>n=(i:Int)/\∃q' d',V O (ab a #[aa s.aR,aH s.first,af p s.sp.length c,af q' fr.length d',aa s.bn] 212*(aE 415 21 bl p s.sp.length c s.sp*(aE 3 1 dm q' fr.length d' fr*F'))) w,?_,?_⟩
  .refine aq<|aN (h.left.cell (i:=3) rfl)<|aW (by simp;omega)<|aq<|aN (h.left.cell (i:=3) rfl)<|aY (by omega) (by omega) ?_;have nU:s.fr[((s.fr.length:Int)- 1).toNat]?=some i:=by
    have e:((s.fr.length:Int)- 1).toNat=fr.length:=by omega
    rw[e,cv];simp
   refine dC iN h.right.right.left (by decide) (by omega) nU λg hg=>az (cU iN (j:=0) h.right.right.left hg nU (by decide) rfl)<|aq<|aN (h.left.cell (i:=3) rfl)<|aY (by omega) (by omega) ?_;have h3:=h.p2;refine ur (h3:V O (own 3 1 q s.fr.length d (s.fr.flatMap dm)*_) Dr) (by omega) (by omega) ?_;have e:((s.fr.length:Int)- 1).toNat=fr.length:=by omega
   rw[e];have h4:=yD iN h3 (show fr.length<=s.fr.length by omega);rw[cv,qS rfl] at h4;refine aq<|bD (i:=3) h4.p1 (by simp) λw5 h5=>⟨rfl,q,d,h5.aF ?_⟩;show ab a #[aa s.aR,aH s.first,af p s.sp.length c,af q fr.length d,aa s.bn] 212*_=_;ac_rfl
  .rintro u n w5 ⟨rfl,q',d',h5⟩;have dQ:s.sp[(i:Int).toNat]?=some y:=by rw[cu];exact hy
   refine aq<|aN (h5.left.cell (i:=2) rfl)<|dC bE h5.right.left (by decide) (by omega) dQ λg hg=>kx h5 ?_;rw[cu];refine rh bE (o:=0) (n:=19) (y':=⟨x,y.g,y.st⟩) h5.p1 hg hy (by decide) (dw _) (fJ _) (sK _ _ _ _) λw6 h6=> ?_;refine g8 bE (y:=⟨x,y.g,y.st⟩) (y':=⟨x,y.g,1⟩) h6 hg (by simp[aQ]) (by decide) (tM _ _ _ _ rfl) λw7 h7=> ?_;rw[jF] at h7;have h7:=h7.p1;refine aq<|az (h7.left.cell (i:=4) rfl)<|aY (by omega) (by omega)<|aq<|bD (i:=4) h7 (by simp) λw8 h8=> ?_;refine az (cU bE (j:=19) (y:=⟨x,y.g,1⟩) h8.right.left hg (by simp[aQ]) (by decide) (mW _))<|fY (kV (i:=i) (g:=y.g) (by omega) (by omega) (by omega))<|bI ?_;rw[bt];exact⟨rfl,fin (Ar.aI (l:=s.sp.length) (m:=fr.length) (p:=p) (q:=q') (c:=c) (d:=d') h8)⟩
 .rw[bt];refine⟨λ_ _=>False,?_,λ_ _ _ h=>h.elim⟩;exact aq<|aN (h.left.cell (i:=3) rfl)<|aw (by simp[cv])<|aq<|az (h.left.cell (i:=0) rfl)<|aW (by simp[fy]) ⟨rfl,fin (Ar.aI h)⟩
 .have e0:s.fr.length=0:=by rw[cv];rfl
  refine⟨λn w=>n=(s.sp.length:Int)/\∃p' c',V O (ab a #[aa s.aR,aH s.first,af p' (s.sp.length+1) c',af q 0 d,aa s.bn] 212*(aE 415 21 bl p' (s.sp.length+1) c' (s.sp++[⟨cx,s.first,0⟩])*(aE 3 1 dm q 0 d []*F'))) w,?_,?_⟩
  .rw[e0,cv] at h;have hd:=h.drew;refine aq<|aN (h.left.cell (i:=3) rfl)<|aw (by simp)<|aq<|az (h.left.cell (i:=0) rfl)<|aw (by simp;omega)<|aq<|aN (hd.left.cell (i:=2) rfl)<|aq<|az (hd.left.cell (i:=1) rfl) ⟨rfl,aG hd λk w3 h3=> ?_⟩;refine ju nT bE (by decide) kT (x:=⟨cx,s.first,0⟩) (h3.aF (B:=_*(aE 415 21 bl p s.sp.length c s.sp*(ab a #[aa s.aR,aH s.first,af p s.sp.length c,af q 0 d,aa s.bn] 212*(aE 3 1 dm q 0 d []*F')))) (by ac_rfl)) rfl (by simp only[maxLen];omega) (by omega) λp' c' w4 h4=> ?_;refine aq<|bD (i:=2) h4.p1 (by simp) λw5 h5=>⟨rfl,p',c',?_⟩;exact h5
  .rintro u n w5 ⟨rfl,p',c',h5⟩;have hy:(s.sp++[⟨cx,s.first,0⟩])[s.sp.length]?=some (⟨cx,s.first,0⟩:bK GE):=by simp
   have dQ:(s.sp++[⟨cx,s.first,0⟩])[(s.sp.length:Int).toNat]?=some (⟨cx,s.first,0⟩:bK GE):=by simp
   have pq:=hs.qu;have oQ:=hs.qv;refine aq<|aN (h5.left.cell (i:=2) rfl)<|dC bE h5.right.left (by decide) (by omega) dQ λg hg=>kx h5 ?_;rw[cu];refine rh bE (o:=0) (n:=19) (y':=⟨x,s.first,0⟩) h5.p1 hg hy (by decide) (dw _) (fJ _) (sK _ _ _ _) λw6 h6=> ?_;refine g8 bE (y:=⟨x,s.first,0⟩) (y':=⟨x,s.first,1⟩) h6 hg (by simp) (by decide) (tM _ _ _ _ rfl) λw7 h7=> ?_;rw[jF] at h7;have h7:=h7.p1;refine aq<|az (h7.left.cell (i:=4) rfl)<|aY (by omega) (by omega)<|aq<|bD (i:=4) h7 (by simp) λw8 h8=> ?_;refine az (cU bE (j:=19) (y:=⟨x,s.first,1⟩) h8.right.left hg (by simp) (by decide) (mW _))<|fY (kV (i:=s.sp.length) (g:=s.first) (by omega) (by omega) (by omega))<|bI ?_;rw[bt];refine⟨rfl,fin (Ar.aI (l:=s.sp.length+1) (m:=0) (p:=p') (q:=q) (c:=c') (d:=d) ?_)⟩;have e:(s.sp++[(⟨cx,s.first,0⟩:bK GE)]).set s.sp.length (⟨x,s.first,1⟩:bK GE)=s.sp++[⟨x,s.first,1⟩]:=by simp
   rw[<-e];exact h8
theorem tE {O w:ao} {F:HP} {a:Nat} {s:AS GE} {h:Int} (hh:V O (Ar a s*F) w) (hs:bx s) (h0:0<=h) (h1:h<=18446744073709551615): ae 107 #[al a,ah h] w λv w'=>v=ak #[an (bP (cI cx s h).2.1).toArray,aa (cI cx s h).2.2]/\V O (Ar a (cI cx s h).1*F) w':=by
 apply Xd;refine aG hh λk1 w1 h2=>aG h2 λk2 w2 h3=> ?_;obtain⟨p,c,q,d,h3⟩:=Ar.aK (h3.aF (B:=Ar a s*(ab k2 (bP cx).toArray 141*(ab k1 (bP cx).toArray 141*F))) (by show ab k2 (bP cx).toArray 141*(ab k1 (bP cx).toArray 141*_)=_;ac_rfl));refine ay (nk h3 h0 h1) ?_;cases hf:find s h with
 |none=>rintro _ w3 ⟨rfl,rfl⟩;rw[yQ hf];have h4:=h3.p3.p4;exact⟨_,_,rfl,aW rfl<|bz h4.right rfl<|bL h4 rfl rfl (fJ cx) λw4 h5=>bz h5 rfl ⟨rfl,Ar.aI h5.right.right⟩⟩
 |some i=>
  rintro _ w3 ⟨rfl,g,hg,rfl⟩;obtain⟨y,hy,dk,_⟩:=(l6 hs).1 hf;rw[uH hf hy];have aQ:=(ct.1 hy).1;have rz:=hs.g y (dF hy);have hb:=hs.lE;have hl:=hs.len;have hm:=hs.ie;have hp:=xu (P:=λz:bK GE=>z.st==1) hy (by simp[dk]);have hk:=hs.bn;obtain⟨dg,nV,cp⟩:∃dg:Int,dg=(if y.g<4294967295 then 0 else 2)/\dg≠1:=⟨_,rfl,by split<;>decide⟩;refine⟨_,_,rfl,aw rfl<|aq<|wZ bE (o:=0) (n:=19) h3.right.left hg hy (by decide) (uU y)<|aG h3 λlG w5 h5=>bL h5 rfl (dw _) (fJ _) λw6 h6=> ?_⟩;have h6:=h6.p3.p2.p3;generalize nZ:ab lG (bP y.x).toArray 141*(ab k2 (bP cx).toArray 141*(ab k1 (bP cx).toArray 141*F))=F' at h6;have Dt:∀{w A B C},V O (A*(B*(C*F'))) w->∀{K},K (bP cx).toArray->aA (aD k2) 19 w K:=by intro w A B C h K hk;rw[<-nZ] at h;exact bz h.right.right.right.right (dw _) hk
  have fin:∀{w s'} {n:Int},n=0->V O (Ar a s'*F') w->aA (aD lG) 19 w λDu=>aS au (aD k1) 19 Du w λdH=>aA (aD k1) 19 dH λDv=>(λv w'=>v=ak #[an (bP y.x).toArray,aa n]/\V O (Ar a s'*F) w') (ak #[an Dv,aa 0]) dH:=by rintro w s' n rfl h;rw[<-nZ] at h;have h:=h.p2.p2.p3;exact bz h.right (dw _)<|bL h rfl (dw _) (fJ _) λw4 h5=>bz h5 (dw _) ⟨rfl,h5.right.right.right⟩
  refine Dt h6<|aq<|rh bE (o:=0) (n:=19) (y':=⟨cx,y.g,y.st⟩) h6 hg hy (by decide) (dw _) (fJ _) (sK _ _ _ _) λw7 h7=>aq ?_;refine g8 bE (y:=⟨cx,y.g,y.st⟩) (y':=⟨cx,y.g,dg⟩) h7 hg (by simp[aQ]) (by decide) (tM _ _ _ _ (by simp[cp])) λw8 h8=> ?_;rw[jF] at h8;have h8:=h8.p1;refine aq<|az (h8.left.cell (i:=4) rfl)<|aY (by omega) (by omega)<|aq<|bD (i:=4) h8 (by simp) λw4 h4=> ?_;have h4:V O (ab a #[aa s.aR,aH s.first,af p s.sp.length c,af q s.fr.length d,aa ((s.bn- 1:Nat):Int)] 212*(aE 415 21 bl p s.sp.length c (s.sp.set i ⟨cx,y.g,dg⟩)*(aE 3 1 dm q s.fr.length d s.fr*F'))) w4:=by
   have e:((s.bn- 1:Nat):Int)=(s.bn:Int)- 1:=by omega
   rw[e];exact h4
  have kW:(s.sp.set i ⟨cx,y.g,dg⟩)[i]?=some (⟨cx,y.g,dg⟩:bK GE):=by simp[aQ]
  refine aq<|az (cU bE (j:=19) h4.right.left hg kW (by decide) (mW _))<|bU (λaQ=> ?_) (λbW=> ?_)
  .have e0:dg=0:=by rw[nV,if_pos aQ]
   subst e0;refine aq<|az (cU bE (j:=19) h4.right.left hg kW (by decide) (mW _))<|gX (by dsimp only;omega) (by dsimp only at aQ ⊢;omega)<|aq<|g8 bE (y':=⟨cx,y.g+1,0⟩) h4.p1 hg kW (by decide) (Dq _ _ _ _) λw5 h5=> ?_;rw[jF] at h5;have h5:=h5.p1;refine aq<|aN (h5.left.cell (i:=3) rfl)<|aG h5 λk w6 h6=> ?_;refine ju nR iN (by decide) Ap (x:=i) (h6.aF (B:=_*(aE 3 1 dm q s.fr.length d s.fr*(ab a #[aa s.aR,aH s.first,af p s.sp.length c,af q s.fr.length d,aa ((s.bn- 1:Nat):Int)] 212*(aE 415 21 bl p s.sp.length c (s.sp.set i ⟨cx,y.g+1,0⟩)*F')))) (by ac_rfl)) rfl (by simp only[maxLen];omega) (by omega) λp' c' w7 h7=> ?_;refine aq<|bD (i:=3) h7.p1 (by simp) λw8 h8=>fin rfl ?_;rcases l8 (z:=cx) hy with⟨_,hd⟩|⟨hn,_⟩
   .rw[hd];exact Ar.aI (l:=s.sp.length) (m:=s.fr.length+1) (p:=p) (q:=p') (c:=c) (d:=c') (h8.aF (by show ab a #[aa s.aR,aH s.first,af p s.sp.length c,af p' (s.fr.length+1) c',aa ((s.bn- 1:Nat):Int)] 212*_=_;ac_rfl))
   .exact absurd aQ hn
  .have e0:dg=2:=by rw[nV,if_neg bW]
   subst e0;refine fin rfl ?_;rcases l8 (z:=cx) hy with⟨hn,_⟩|⟨_,hd⟩
   .exact absurd hn bW
   .rw[hd];exact Ar.aI h4
def jf (p:Int×GE):aM:=#[ah p.1,an (bP p.2).toArray]
def kc (p:Nat×bK GE):Int×GE:=(hd p.1 p.2.g,p.2.x)
theorem xy {O w:ao} {F:HP} {x:av} (h:V O F w): ae 106 #[ag x] w λv w'=>∃k t,v=.func (.func 186) #[] #[al k]/\V O (ab k #[ag x] t*F) w':=by apply Xc;exact aG h λk w1 h1=>⟨k,_,rfl,h1⟩
theorem KO {O:ao} {k a t:Nat} {s:AS GE} {bG:Nat->HP} (hs:bx s) (hP:∀w,V O (bG 0) w->V O (ab k #[al a] t) w) (hA:∀w,V O (bG 0) w->V O (Ar a s) w): iD au O 186 #[al k] bG ((cq 0 s.sp).map λp=>jf (kc p)):=by
 intro f b c B Bx cA hB hy F w h;show ae _ #[.func f b c,al k] w _;apply Xh;have hl:=hs.len;have hm:=hs.ie;refine bh ((hP _ (hB 0 _ h.left)).cell (i:=0) rfl)<|aw rfl<|aG h λk2 w1 h1=> ?_;have gO:=hP _ (hB 0 _ h1.right.left);obtain⟨p,c5,q,d,h2⟩:=Ar.aK ((hA _ (hB 0 _ h1.right.left)).cQ.e1);refine bh (gO.cell (i:=0) rfl)<|aq<|aN (h2.left.cell (i:=2) rfl) ?_;have hT:V O (own 415 21 p s.sp.length c5 (s.sp.flatMap bl)) w1:=h2.right.left;refine lW nT (V.lx (t:=415) (sz:=21) (n:=0) h1 rfl (by decide)) hT.rd (yG kT) (by simp only[maxLen];omega) (by omega) λp6 c6 w2 h3=> ?_;rw[dc] at h3 ⊢;have h3:V O (aE 415 21 bl p6 s.sp.length c6 s.sp*(B 0*F)) w2:=h3;refine⟨λn w m=>0<=n/\n<=s.sp.length/\m=s.sp.length- n.toNat/\V O (aE 415 21 bl p6 s.sp.length c6 s.sp*(B (cq 0 (s.sp.take n.toNat)).length*F)) w,⟨_,by omega,by omega,rfl,h3⟩,?_⟩;rintro u n w3 m ⟨h0,h1,rfl,h4⟩;refine bU (λaQ=> ?_) (λbW=>.inl ?_)
 .obtain⟨i,rfl⟩:∃i:Nat,n=i:=⟨n.toNat,by omega⟩;rw[cu] at h4;have hi:i<s.sp.length:=by omega
  obtain⟨y,eT⟩:∃y,s.sp[i]?=some y:=⟨s.sp[i],by simp[hi]⟩;have dQ:s.sp[(i:Int).toNat]?=some y:=by rw[cu];exact eT
  have rz:=hs.g y (dF eT);have e1:((i:Int)+1).toNat=i+1:=by omega
  have e2:s.sp.take (i+1)=s.sp.take i++[y]:=by rw[fV,eT];rfl
  have e3:(s.sp.take i).length=i:=by rw[fB];omega
  refine dC bE h4.left (by decide) (by omega) dQ λg hg=>vK bE h4.left hg dQ<|aG h4 λk3 w4 h5=>bL h5 rfl (by simp[bE]) (λu hu=>kT y u hu) λw5 h6=> ?_;have h6:=h6.drew;have KP:(bl y).toArray[20]?=some (aC (y.st==1)):=by rw[kI];exact zd y
  have KQ:(bl y).toArray[19]?=some (aH y.g):=by rw[kI];exact mW y
  have ex:(bl y).toArray.extract 0 (0+19)=(bP y.x).toArray:=by apply cT;rw[pV,oZ];exact uU y
  refine gQ (aB h6 KP)<|cy (λht=> ?_) (λhf=> ?_)
  .have ht:y.st=1:=by simpa using ht
   refine az (aB h6 KQ)<|ff (o:=0) (n:=19) h6 (by simp[bE]) ?_;rw[ex];refine fY (kV (i:=i) (g:=y.g) (by omega) (by omega) (by omega))<|bI<|Fx (o:=0) (vs:=(bP y.x).toArray) h6 (λj hj=> ?_) ?_
   .have hj:j<19:=by rw[dw] at hj;exact hj
    have Ju:=dJ y.x;rw[kI,kI,dc,bl,r9 (by omega)]
   have hx:((cq 0 s.sp).map λp=>jf (kc p))[(cq 0 (s.sp.take i)).length]?=some (jf (hd i y.g,y.x)):=by
    have e4:s.sp=s.sp.take i++(y::s.sp.drop (i+1)):=by
     conv=>lhs;rw[<-mK i s.sp,ll hi]
     rw[gm hi] at eT;cases eT;rfl
    have e5:cq 0 s.sp=cq 0 (s.sp.take i)++(i,y)::cq (i+1) (s.sp.drop (i+1)):=by conv=>lhs;rw[e4,AR,e3,dc,cq,if_pos ht]
    rw[eZ,e5];simp[kc]
   refine nH (hy _ _ hx (ab k3 (bl y).toArray 415*(aE 415 21 bl p6 s.sp.length c6 s.sp*F)) _ (h6.p2)) ?_;rintro v w7 (⟨rfl,h7⟩|⟨rfl,h7⟩)
   .refine cR<|aw rfl<|aY (by omega) (by omega) ⟨_,?_,by omega,by omega,rfl,?_⟩
    .omega
    .rw[e1,e2,sB,if_pos ht,gp];exact(h7.p2.p2).right
   .exact cR<|aW rfl<|.inr ((h7.p2.p2.g1).right)
  .have hf:y.st≠1:=by simpa using hf
   refine aY (by omega) (by omega) ⟨_,by omega,by omega,by omega,rfl,?_⟩;rw[e1,e2,sB,if_neg hf,jS];exact h6.right
 .have e:s.sp.take n.toNat=s.sp:=by rw[eW];omega
  rw[e] at h4;rw[fk];exact h4.right
end Go.Proofs.YtjhnnnfnkjighaaGreatDoor.Rf
namespace Go.Proofs.YtjhnnnfnkjighaaGreatDoor.Lt
open Go.Proofs.YtjhnnnfnkjighaaGreatDoor
open Go.Sp Go.RowKit
abbrev GE:=tH
def bP (e:GE):dB:=cS e.x++[aa e.hm]
theorem dJ (e:GE):(bP e).length=37:=by simp[bP,nO]
theorem xH (e:GE):∀u∈bP e,u.oneCell'=true:=by
 intro u hu;rcases fj.1 hu with hu|hu
 .exact mR _ u hu
 .simp at hu;subst hu;rfl
def cx:GE:=tJ
def bl (y:bK GE):dB:=bP y.x++[aH y.g,aC (y.st==1)]
theorem bE (y:bK GE):(bl y).length=39:=by simp[bl,dJ]
theorem kT (y:bK GE):∀u∈bl y,u.oneCell'=true:=by
 intro u hu;rcases fj.1 hu with hu|hu
 .exact xH _ u hu
 .simp at hu;rcases hu with rfl|rfl<;>rfl
theorem mW (y:bK GE):(bl y)[37]?=some (aH y.g):=by rw[bl,ix (by rw[dJ];decide),dJ];rfl
theorem zd (y:bK GE):(bl y)[38]?=some (aC (y.st==1)):=by rw[bl,ix (by rw[dJ];decide),dJ];rfl
theorem Dq (x:GE) (g g' st:Int):bl ⟨x,g',st⟩=(bl ⟨x,g,st⟩).set 37 (aH g'):=by rw[bl,bl,lp _ _ (by rw[dJ];decide),dJ];rfl
theorem tM (x:GE) (g st dg:Int) {b:Bool} (hb:(dg==1)=b):bl ⟨x,g,dg⟩=(bl ⟨x,g,st⟩).set 38 (aC b):=by subst hb;rw[bl,bl,lp _ _ (by rw[dJ];decide),dJ];rfl
theorem sK (x y:GE) (g st:Int):bl ⟨x,g,st⟩=(bl ⟨y,g,st⟩).take 0++((bP x).toArray).toList++(bl ⟨y,g,st⟩).drop (0+37):=by rw[bl,bl,qT,m8,dc,ub,dJ,mJ (by rw[dJ];exact eJ _)];rfl
theorem uU (y:bK GE):((bl y).drop 0).take 37=bP y.x:=by rw[bl,m9,sU (by rw[dJ];exact eJ _),eW (by rw[dJ];exact eJ _)]
theorem dw (e:GE):((bP e).toArray).size=37:=by simp[dJ]
theorem fJ (e:GE):∀u∈((bP e).toArray).toList,u.oneCell'=true:=xH e
def Ar (a:Nat) (s:AS GE):HP:=ex λp=>ex λl=>ex λc=>ex λq=>ex λm=>ex λd=>
 ab a #[aa s.aR,aH s.first,af p l c,af q m d,aa s.bn] 253*(aE 440 39 bl p l c s.sp*aE 3 1 dm q m d s.fr)
theorem Ar.aK {O w:ao} {F:HP} {a:Nat} {s:AS GE} (h:V O (Ar a s*F) w):∃p c q d,V O (ab a #[aa s.aR,aH s.first,af p s.sp.length c,af q s.fr.length d,aa s.bn] 253*(aE 440 39 bl p s.sp.length c s.sp*(aE 3 1 dm q s.fr.length d s.fr*F))) w:=by obtain⟨p,h⟩:=V.ex h;obtain⟨l,h⟩:=V.ex h;obtain⟨c,h⟩:=V.ex h;obtain⟨q,h⟩:=V.ex h;obtain⟨m,h⟩:=V.ex h;obtain⟨d,h⟩:=V.ex h;have h:=h.a.p1.a.p2;have e1:=nK bE (by decide) h.right.left;have e2:=nK iN (by decide) h.right.right.left;subst e1 e2;exact⟨p,c,q,d,h⟩
theorem Ar.aI {O w:ao} {F:HP} {a l m:Nat} {aR first:Int} {sp:List (bK GE)} {fr:List Nat} {bn:Nat} {p q:av} {c d:Nat} (h:V O (ab a #[aa aR,aH first,af p l c,af q m d,aa bn] 253*(aE 440 39 bl p l c sp*(aE 3 1 dm q m d fr*F))) w):V O (Ar a ⟨aR,first,sp,fr,bn⟩*F) w:=V.bO p (V.bO l (V.bO c (V.bO q (V.bO m (V.bO d (h.aF (by ac_rfl)))))))
theorem tA {O w:ao} {F:HP} {aR first:Int} (h:V O F w) (h0:1<=aR) (h1:aR<=65536) (h2:first≠0): ae 49 #[aa aR,aH first] w λv w'=>∃a,v=ak #[al a,aa 0]/\V O (Ar a ⟨aR,first,[],[],0⟩*F) w':=by apply W8;exact aw (by simp;omega)<|aw (by simp;omega)<|aw (by simp;exact h2)<|aG h λb w2 h2=>⟨b,rfl,Ar.aI (l:=0) (m:=0) ((fE 440 39 bl (fE 3 1 dm h2)).aF (by ac_rfl))⟩
theorem sE {h:Int} (h0:0<=h) (h1:h<=18446744073709551615):kN au 274 #[ah h] (ak #[aa (h%4294967296- 1),aH (h/ 4294967296)]):=by
 intro w;apply Am;refine Aq<|aY (by omega) (by omega)<|aY (by omega) (by omega)<|uq (by omega) (by simp only[IntKind.bits];omega) ?_;have e:(2:Int)^(32:Int).toNat=4294967296:=by decide
 rw[e];exact gX (by omega) (by omega) ⟨rfl,rfl⟩
theorem tB {i:Nat} {g:Int} (hi:i<4294967295) (h0:0<=g) (h1:g<=4294967295):gr .or .u64 (g*2^32) ((i:Int)+1)=hd i g:=by
 obtain⟨n,rfl⟩:∃n:Nat,g=n:=⟨g.toNat,by omega⟩;have:=Go.Sp.yE (x:=i+1) (b:=n) (i:=32) (by omega) (by omega) (by omega);have e1:((n*2^32:Nat):Int)=(n:Int)*2^32:=by simp
 rw[e1] at this;rw[show(i:Int)+1=((i+1:Nat):Int) by omega,this,hd];omega
theorem kV {i:Nat} {g:Int} (hi:i<4294967295) (h0:0<=g) (h1:g<=4294967295):kN au 62 #[aa i,aH g] (ah (hd i g)):=by intro w;apply Al;refine fx (by omega) (by omega)<|yF (n:=32) (by omega) (by omega) (by omega)<|aY (by omega) (by omega)<|fx (by omega) (by omega) ?_;rw[tB hi h0 h1];exact⟨rfl,rfl⟩
theorem nk {O w:ao} {F:HP} {a c:Nat} {s:AS GE} {p q:av} {m d:Nat} {h:Int} (hh:V O (ab a #[aa s.aR,aH s.first,af p s.sp.length c,af q m d,aa s.bn] 253*(aE 440 39 bl p s.sp.length c s.sp*F)) w) (h0:0<=h) (h1:h<=18446744073709551615): ae 199 #[al a,ah h] w λv w'=>w'=w/\ match find s h with
   |none=>v=ak #[ag none,aa 0]
   |some i=>∃g,p=some (aD g)/\v=ak #[ag (some ⟨g,i*39,none⟩),aa i]:=by
 apply Xn;have hc:w.cell? ⟨a,2,none⟩=some (af p s.sp.length c):=hh.left.cell (i:=2) rfl;refine fY (sE h0 h1) ⟨_,_,rfl,aw rfl<|bU (λaQ=> ?_) (λbW=>aq<|aN hc<|bU (λxg=> ?_) (λoJ=>aq<|aN hc ?_))⟩
 .rw[find,if_pos (by omega)];exact⟨rfl,rfl⟩
 .rw[find,if_neg (by omega),ua (by omega)];exact⟨rfl,rfl⟩
 .obtain⟨y,hy⟩:∃y,s.sp[(h%4294967296- 1).toNat]?=some y:=⟨s.sp[(h%4294967296- 1).toNat]'(by omega),by simp⟩;have hT:=hh.right.left;refine dC bE hT (by decide) (by omega) hy λg hg=>gQ (cU bE (j:=38) hT hg hy (by decide) (zd y))<|cy (λhb=> ?_) (λhb=>az (cU bE (j:=37) hT hg hy (by decide) (mW y))<|cy (λhn=> ?_) (λhn=> ?_))
  .have hb:y.st≠1:=by simpa using hb
   rw[find,if_neg (by omega),hy];simp[hb]
  .have hn:y.g≠h/ 4294967296:=by simpa using hn
   rw[find,if_neg (by omega),hy];simp[hn]
  .have hb:y.st=1:=by simpa using hb
   have hn:y.g=h/ 4294967296:=by simpa using hn
   rw[find,if_neg (by omega),hy];simp only[hb,hn,and_self,if_true];refine⟨trivial,g,hg,?_⟩;rw[zN (by omega)]
theorem tC {O w:ao} {F:HP} {a:Nat} {s:AS GE} {h:Int} (hh:V O (Ar a s*F) w) (hs:bx s) (h0:0<=h) (h1:h<=18446744073709551615): ae 113 #[al a,ah h] w λv w'=>V O (Ar a s*F) w'/\ match(find s h).bind (s.sp[·]?) with
   |none=>v=ak #[an (bP cx).toArray,aa 2]
   |some y=>v=ak #[an (bP y.x).toArray,aa 0]:=by
 apply Xe;refine aG hh λk w1 h2=> ?_;obtain⟨p,c,q,d,h3⟩:=Ar.aK (h2.p1);refine ay (nk h3 h0 h1) ?_;rcases FY hs h with⟨hf,hb⟩|⟨i,y,hf,hy,h1,hb⟩
 .rw[hb,hf];rintro _ w2 ⟨rfl,rfl⟩;refine⟨_,_,rfl,aW rfl<|aG h2 λk2 w3 h4=>bz h4 rfl<|bL (h4.p1) rfl rfl (fJ cx) λw4 h5=>bz h5 rfl ⟨h5.right.right,rfl⟩⟩
 .rw[hb,hf];rintro _ w2 ⟨rfl,g,hg,rfl⟩;have h6:=h3.aF (B:=ab k (bP cx).toArray 166*(aE 440 39 bl p s.sp.length c s.sp*(ab a #[aa s.aR,aH s.first,af p s.sp.length c,af q s.fr.length d,aa s.bn] 253*(aE 3 1 dm q s.fr.length d s.fr*F)))) (by show ab a _ _*(aE _ _ _ _ _ _ _*(aE _ _ _ _ _ _ _*(ab k (bP cx).toArray 166*F)))=_;ac_rfl);refine⟨_,_,rfl,aw rfl<|aq<|wZ bE (o:=0) (n:=37) h6.right.left hg hy (by decide) (uU y)<|bL h6 rfl (dw _) (fJ _) λw4 h5=>bz h5 (dw _) ⟨Ar.aI h5.right.p1,rfl⟩⟩
theorem nT:fe au 251 440 (an (bl ⟨cx,0,0⟩).toArray) 39 72:=⟨by kernel_rfl,by kernel_rfl,by simp[Value.cells,bE],by decide⟩
end Go.Proofs.YtjhnnnfnkjighaaGreatDoor.Lt
