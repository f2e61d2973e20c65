/- Whole: a part of the proof. No conditions. -/
import Derived.Test.YtjhnnnfnkjighaaGreatDoorQ15
import Derived.Recover
set_option linter.unusedVariables false
set_option linter.unusedSimpArgs false
set_option maxRecDepth 100000
namespace Go.Proofs.YtjhnnnfnkjighaaGreatDoor
open Go.Sp Go.RowKit
def j3 (x:ig):dB:=[aa x.op,aa x.a,aa x.b]
def pJ (x:ig):aM:=#[aa x.op,aa x.a,aa x.b]
theorem GF (x:ig):(j3 x).length=3:=rfl
theorem Q6 (x:ig):∀u∈j3 x,u.oneCell'=true:=by simp[j3,Value.oneCell']
theorem KY (x:ig):∀u∈(pJ x).toList,u.oneCell'=true:=by simp[pJ,Value.oneCell']
def zg (slots:Int) (x:ig):Option (Int×Int):=
 if x.op=1 then(if-2147483648<=x.a/\x.a<=2147483647/\x.b=0 then some (0,1) else none)
 else if x.op=8 then(if 0<=x.a/\x.a<slots/\0<=x.b/\x.b<8 then some (1,1) else none)
 else if x.op=9\/x.op=10 then(if 0<=x.a/\x.a<slots/\x.b=0 then some (0,0) else none)
 else if x.a=0/\x.b=0 then
  (if x.op=2\/x.op=3 then some (0,1) else if x.op=4\/x.op=11 then some (1,0) else if x.op=5 then some (2,1) else if x.op=6 then some (1,1) else none)
 else none
theorem afh {slots:Int} {x:ig} {t l:Int} (h:zg slots x=some (t,l)):x.op≠7/\0<=t/\t<=2/\0<=l/\l<=1:=by
 unfold zg at h;split at h
 .split at h
  .cases h;omega
  .cases h
 .split at h
  .split at h
   .cases h;omega
   .cases h
  .split at h
   .split at h
    .cases h;omega
    .cases h
   .split at h
    .split at h
     .cases h;omega
     .split at h
      .cases h;omega
      .split at h
       .cases h;omega
       .split at h
        .cases h;omega
        .cases h
    .cases h
def rN (slots:Int):List ig->Int->Int->Option Int
 |[],_,_=>none
 |x::r,h,m=>match zg slots x with
  |some (t,l)=>if t<=h/\h- t+l<=8 then(if x.op=11 then(if h=1/\r=[] then some (max m (h- t+l)) else none) else rN slots r (h- t+l) (max m (h- t+l))) else none
  |none=>none
def cO (l:aJ):dB:=l.map (.int .i64 ·)
section
variable {O w:ao} {F:HP}
theorem GG {b n:Nat} {i:Int} {K:Addr->Prop} (h0:0<=i) (h1:i<(n:Int)) (hk:K ⟨b,i.toNat,none⟩):ba (aU b) n i 1 K:=by refine⟨⟨h0,h1⟩,?_⟩;rw[du,dc,jT];exact hk
theorem fS {k i:Nat} {cs:aM} {v:Value} {t:TypeId} (h:V O (ab k cs t*F) w) (hv:cs[i]?=some v):w.cell? ⟨k,i,none⟩=some v:=by have:=aB (i:=i) h hv;rwa[du,dc] at this
theorem pK {b i:Nat} {cs:aM} {t:TypeId} {v:Value} {K:ao->Prop} (h:V O (ab b cs t*F) w) (hi:i<cs.size) (hk:∀w',V O (ab b (cs.setIfInBounds i v) t*F) w'->K w'):st ⟨b,i,none⟩ v w K:=by have:=bD (i:=i) (v:=v) (K:=K) h hi hk;first|exact this|simpa[du] using this
theorem afi {x:ig} {slots t l:Int} (hs:zg slots x=some (t,l)) (h:V O F w):ae 398 #[an (pJ x),aa slots] w λv w'=>v=ak #[aa t,aa l,aC true]/\V O F w':=by
 obtain⟨op,a,b⟩:=x;apply ZP;refine aG h λk w1 h1=>⟨λs w'=>s=(decide (0<=a)&&decide (a<slots))/\V O (ab k (pJ ⟨op,a,b⟩) 99*F) w',?_,?_⟩
 .refine az (aB h1 (i:=1) rfl)<|bU (λbW=>az (aB h1 (i:=1) rfl) ⟨by simp[show 0<=a by omega],h1⟩) λaQ=>⟨by simp[show¬0<=a by omega],h1⟩
 rintro u s w2 ⟨rfl,h2⟩;have h3:=h2;refine az (aB h2 (i:=0) rfl) ?_;unfold zg at hs;dsimp only at hs;split at hs
 .rename_i e;subst e;split at hs
  .cases hs;(repeat first|exact⟨by first|rfl|(simp;done)|(simp;omega),h3.drew.right⟩|refine az (aB h3.drew (i:=1) rfl) ?_|refine az (aB h3.drew (i:=2) rfl) ?_|refine aW (by first|rfl|(simp;done)|(simp;omega)) ?_|refine aw (by first|rfl|(simp;done)|(simp;omega)) ?_)
  .cases hs
 rename_i n1;split at hs
 .rename_i e;subst e;split at hs
  .cases hs;(repeat first|exact⟨by first|rfl|(simp;done)|(simp;omega),h3.drew.right⟩|refine az (aB h3.drew (i:=1) rfl) ?_|refine az (aB h3.drew (i:=2) rfl) ?_|refine aW (by first|rfl|(simp;done)|(simp;omega)) ?_|refine aw (by first|rfl|(simp;done)|(simp;omega)) ?_)
  .cases hs
 rename_i n8;split at hs
 .rename_i e;split at hs
  .cases hs;rcases e with rfl|rfl
   ·(repeat first|exact⟨by first|rfl|(simp;done)|(simp;omega),h3.drew.right⟩|refine az (aB h3.drew (i:=1) rfl) ?_|refine az (aB h3.drew (i:=2) rfl) ?_|refine aW (by first|rfl|(simp;done)|(simp;omega)) ?_|refine aw (by first|rfl|(simp;done)|(simp;omega)) ?_);refine⟨λb w'=>b=true/\w'=w2,aW rfl ⟨rfl,rfl⟩,?_⟩;rintro u _ w3 ⟨rfl,rfl⟩;(repeat first|exact⟨by first|rfl|(simp;done)|(simp;omega),h3.drew.right⟩|refine az (aB h3.drew (i:=1) rfl) ?_|refine az (aB h3.drew (i:=2) rfl) ?_|refine aW (by first|rfl|(simp;done)|(simp;omega)) ?_|refine aw (by first|rfl|(simp;done)|(simp;omega)) ?_)
   ·(repeat first|exact⟨by first|rfl|(simp;done)|(simp;omega),h3.drew.right⟩|refine az (aB h3.drew (i:=1) rfl) ?_|refine az (aB h3.drew (i:=2) rfl) ?_|refine aW (by first|rfl|(simp;done)|(simp;omega)) ?_|refine aw (by first|rfl|(simp;done)|(simp;omega)) ?_);refine⟨λb w'=>b=true/\w'=w2,aw rfl ⟨rfl,rfl⟩,?_⟩;rintro u _ w3 ⟨rfl,rfl⟩;(repeat first|exact⟨by first|rfl|(simp;done)|(simp;omega),h3.drew.right⟩|refine az (aB h3.drew (i:=1) rfl) ?_|refine az (aB h3.drew (i:=2) rfl) ?_|refine aW (by first|rfl|(simp;done)|(simp;omega)) ?_|refine aw (by first|rfl|(simp;done)|(simp;omega)) ?_)
  .cases hs
 rename_i n9;have h9:(op==9)=false:=by simp;omega
 have aV:(op==10)=false:=by simp;omega
 split at hs
 .rename_i e;obtain⟨ea,eb⟩:=e;subst ea eb;refine aw (by simpa using n1) ?_;by_cases e7:op=7
  .subst e7;simp at hs
  refine aw (by simpa using e7)<|aw (by simpa using n8) ⟨λb w'=>b=false/\w'=w2,aw h9 ⟨aV,rfl⟩,?_⟩;rintro u _ w3 ⟨rfl,rfl⟩;refine aw rfl ?_;split at hs
  .rename_i e;cases hs;rcases e with rfl|rfl
   .refine⟨λb w'=>b=true/\w'=w3,aW rfl ⟨rfl,rfl⟩,?_⟩;rintro u _ w4 ⟨rfl,rfl⟩;(repeat first|exact⟨by first|rfl|(simp;done)|(simp;omega),h3.drew.right⟩|refine az (aB h3.drew (i:=1) rfl) ?_|refine az (aB h3.drew (i:=2) rfl) ?_|refine aW (by first|rfl|(simp;done)|(simp;omega)) ?_|refine aw (by first|rfl|(simp;done)|(simp;omega)) ?_)
   .refine⟨λb w'=>b=true/\w'=w3,aw rfl ⟨rfl,rfl⟩,?_⟩;rintro u _ w4 ⟨rfl,rfl⟩;(repeat first|exact⟨by first|rfl|(simp;done)|(simp;omega),h3.drew.right⟩|refine az (aB h3.drew (i:=1) rfl) ?_|refine az (aB h3.drew (i:=2) rfl) ?_|refine aW (by first|rfl|(simp;done)|(simp;omega)) ?_|refine aw (by first|rfl|(simp;done)|(simp;omega)) ?_)
  rename_i n2;have Cy:(op==2)=false:=by simp;omega
  have qX:(op==3)=false:=by simp;omega
  refine⟨λb w'=>b=false/\w'=w3,aw Cy ⟨qX,rfl⟩,?_⟩;rintro u _ w4 ⟨rfl,rfl⟩;refine aw rfl ?_;split at hs
  .rename_i e;cases hs;rcases e with rfl|rfl<;>(repeat first|exact⟨by first|rfl|(simp;done)|(simp;omega),h3.drew.right⟩|refine az (aB h3.drew (i:=1) rfl) ?_|refine az (aB h3.drew (i:=2) rfl) ?_|refine aW (by first|rfl|(simp;done)|(simp;omega)) ?_|refine aw (by first|rfl|(simp;done)|(simp;omega)) ?_)
  split at hs
  .rename_i e;cases hs;subst e;(repeat first|exact⟨by first|rfl|(simp;done)|(simp;omega),h3.drew.right⟩|refine az (aB h3.drew (i:=1) rfl) ?_|refine az (aB h3.drew (i:=2) rfl) ?_|refine aW (by first|rfl|(simp;done)|(simp;omega)) ?_|refine aw (by first|rfl|(simp;done)|(simp;omega)) ?_)
  split at hs
  .rename_i e;cases hs;subst e;(repeat first|exact⟨by first|rfl|(simp;done)|(simp;omega),h3.drew.right⟩|refine az (aB h3.drew (i:=1) rfl) ?_|refine az (aB h3.drew (i:=2) rfl) ?_|refine aW (by first|rfl|(simp;done)|(simp;omega)) ?_|refine aw (by first|rfl|(simp;done)|(simp;omega)) ?_)
  .cases hs
 .cases hs
theorem kZ {α:Type} {f:α->dB} {ys:List α} {sz l:Nat} {p:av} {i:Int} {y:α} {K:Addr->Prop} (hf:∀y,(f y).length=sz) (hs:0<sz) (h:Rd w sz p l (ys.flatMap f)) (h0:0<=i) (hy:ys[i.toNat]?=some y) (hk:∀a,(∀j u,(f y)[j]?=some u->w.cell? (a.add j)=some u)->K a):ba p l i sz K:=by
 have e:=h.1;rw[td hf] at e;have e:=Nat.eq_of_mul_eq_mul_right hs e;have aQ:=(ct.1 hy).1;refine fM h h0 (by omega) λa ha=>hk _ λj u hu=> ?_;have hj:j<sz:=by rw[<-hf y];exact(ct.1 hu).1
 rw[jG];exact h.get ha (by rw[Fw hf hy hj,hu])
theorem nu {a:Addr} {vs:dB} {n:Nat} {K:aM->Prop} (hn:vs.length=n) (h:∀j u,vs[j]?=some u->w.cell? (a.add j)=some u) (hk:K vs.toArray):aA a n w K:=by
 refine oF (by simpa using hn) (λi hi=> ?_) hk;have:i<vs.length:=by omega
 rw[kI,gm this];exact h i _ (gm this)
theorem afj (pre:aJ) (x:Int) (r:aJ):(cO (pre++x::r)).toArray[pre.length]?=some (aa x):=by simp[cO]
theorem afk (pre:aJ) (x y:Int) (r:aJ):(cO (pre++x::y::r)).toArray[pre.length+1]?=some (aa y):=by simp[cO,ix]
theorem afl (pre:aJ) (x y z:Int) (r:aJ):(cO (pre++x::y::r)).toArray.setIfInBounds (pre.length+1) (aa z)=(cO (pre++x::z::r)).toArray:=by apply cT;simp[cO,lp]
theorem afm {m i h left:Int} {k:Nat} (hs:V O (ab k #[aa m] 3*F) w):ae 363 #[aa i,aa h,aa left,al k] w λv w'=>v=aC true/\V O (ab k #[aa (max m left)] 3*F) w':=by
 apply ZM;refine az (n:=m) (fS hs rfl)<|pK hs (by simp) λw1 h1=>⟨rfl,?_⟩;have e:(if left>m then left else m)=max m left:=by rw[Int.max_def];split<;>split<;>omega
 rw[<-e];exact h1
theorem DB (m:Nat):fX (aa 0) m=cO (List.replicate m 0):=by
 simp[fX,wW,cO,Value.cells];induction m with
 |zero=>rfl
 |succ m ih=>rw[List.range_succ,nF,ih,List.replicate_succ'];simp[Nat.mod_one]
theorem afn {l:List ig} {p:av} {c k:Nat} {slots m:Int} (hG:bd F 3 p l.length (l.flatMap j3)) (h1:1<=l.length) (h2:l.length<=32) (hw:rN slots l 0 0=some m) (h:V O (ab k #[aa 0] 3*F) w): ae 362 #[af p l.length c,aa slots,.func (.func 363) #[] #[al k]] w λv w'=>v=ak #[aa 0,aa 0]/\V O (ab k #[aa m] 3*F) w':=by
 apply ZL;refine aw (by simp;omega)<|aw (by simp;omega)<|xJ nR h (eJ _) (by omega) (by omega) λb w1 ha=> ?_;rw[DB] at ha;obtain⟨n,hn⟩:∃n,l.length=n+1:=⟨l.length- 1,by omega⟩;refine GG (by omega) (by omega)<|pK ha (by simp[cO,hn]) λw2 hb=> ?_;have eb:((cO (List.replicate l.length 0)).toArray.setIfInBounds (Int.toNat 0) (aa 1))=(cO ([]++(0+1)::List.replicate (l.length- 1- 0) 0)).toArray:=by rw[hn];apply cT;simp[cO,Cb]
 rw[eb] at hb;refine⟨λi w m7=>∃j:Nat,i=j/\m7=l.length- j/\∃(pre:aJ) (h aR:Int),pre.length=j/\0<=h/\h<=8/\((j<l.length/\rN slots (l.drop j) h aR=some m/\V O (ab b (cO (pre++(h+1)::List.replicate (l.length- 1- j) 0)).toArray 3*(ab k #[aa aR] 3*F)) w)\/(j=l.length/\aR=m/\V O (ab k #[aa aR] 3*F) w)),⟨_,0,rfl,rfl,[],0,0,rfl,by decide,by decide,.inl ⟨by omega,hw,hb⟩⟩,?_⟩;clear hb ha eb h hw;rintro u _ w3 m7 ⟨j,rfl,rfl,pre,h,aR,hp,h0,h8,hj⟩;rcases hj with⟨hj,hw,h3⟩|⟨rfl,rfl,h3⟩
 rotate_left
 .refine aw (by simp) ⟨rfl,h3⟩
 refine aW (by simp;omega) ?_;have hx:l[j]?=some (l[j]'hj):=by simp[hj]
 rw[ll hj] at hw;generalize l[j]'hj=x at hx hw;unfold rN at hw;split at hw;rotate_left
 .cases hw
 rename_i t la GH;split at hw;rotate_left
 .cases hw
 rename_i hle;obtain⟨Cu,Ns,Ik,Ff,hl1⟩:=afh GH;refine kZ GF (by decide) (hG _ _ h3.right.right) (by omega) (by rw[cu];exact hx) λa ha=>nu rfl ha<|aG h3 λlG w4 h4=>bL h4 rfl rfl (KY x) λw5 h5=>bz h5 rfl<|ay (afi GH h5) ?_;rintro _ w6 ⟨rfl,h6⟩;have hi:∀{w':ao} {K:Addr->Prop},K ⟨b,j,none⟩->ba (aU b) l.length (j:Int) 1 K:=λ{_ _} hk=>GG (by omega) (by omega) (by rwa[cu]);have hc:=fS h6.p1 (i:=j) (by rw[<-hp];exact afj _ _ _);refine⟨_,_,_,rfl,hi (w':=w6)<|az hc<|aY (by omega) (by omega)<|aY (by omega) (by omega)<|aY (by omega) (by omega) ⟨λw'=>w'=w6,⟨λq w'=>q=false/\w'=w6,?_,?_⟩,?_⟩⟩
 .refine aw rfl<|hi (w':=w6)<|az hc<|aw (by simp;omega)<|aw (by simp;omega)<|az (n:=x.op) (aB h6 (i:=0) rfl) ?_;by_cases e:x.op=11
  .rw[if_pos e] at hw;split at hw
   .rename_i e2;exact aW (by simpa using e) ⟨by simp;omega,rfl⟩
   .cases hw
  .exact aw (by simpa using e) ⟨rfl,rfl⟩
 .rintro u _ w7 ⟨rfl,rfl⟩;refine aw rfl<|aw (by simp;omega)<|az (n:=x.op) (aB h6 (i:=0) rfl) ?_;by_cases e:x.op=11
  .exact aw (by simpa using e) rfl
  .rw[if_neg e] at hw;have aQ:j+1<l.length:=by
    rcases sY (j+1) l.length with q|q
    .exact q
    .rw[mJ q] at hw;simp[rN] at hw
   exact aW (by simpa using e)<|aY (by omega) (by omega)<|aw (by simp;omega)<|az (n:=x.op) (aB h6 (i:=0) rfl)<|aw (by simpa using Cu) rfl
 rintro u w8 rfl;refine Bt Tryz.func363 rfl<|ay (afm h6.p2) ?_;rintro _ w9 ⟨rfl,h9⟩;refine cR<|aw rfl<|aY (by omega) (by omega)<|aG h9 λmE dn aV=> ?_;have bu:V O (ab lG (pJ x) 99*(ab mE #[aa ((j:Int)+1)] 3*(ab b (cO (pre++(h+1)::List.replicate (l.length- 1- j) 0)).toArray 3*(ab k #[aa (max aR (h+1- 1- t+la))] 3*F)))) dn:=aV.aF (by ac_rfl);have eh:h+1- 1- t+la=h- t+la:=by omega
 rw[eh] at bu ⊢;refine⟨λq n c w'=>x.op≠11/\q=some (aD mE)/\n=1/\c=1/\w'=dn,?_,?_⟩
 .refine az (n:=x.op) (aB bu (i:=0) rfl) ?_;by_cases e:x.op=11
  .rw[if_pos e] at hw;split at hw
   .rename_i e2;cases hw;have yz:j+1=l.length:=by have:=congrArg List.length e2.2;simp at this;omega
    refine aW (by simpa using e)<|aY (by omega) (by omega) ⟨_,?_,j+1,by omega,rfl,pre++[0],0,_,by simp[hp],by decide,by decide,.inr ⟨yz,rfl,bu.right.right.right⟩⟩;omega
   .cases hw
  .exact aw (by simpa using e)<|aw (by simpa using Cu) ⟨e,rfl,rfl,rfl,rfl⟩
 rintro u _ _ _ fZ ⟨e,rfl,rfl,rfl,rfl⟩;rw[if_neg e] at hw;have aQ:j+1<l.length:=by
  rcases sY (j+1) l.length with q|q
  .exact q
  .rw[mJ q] at hw;simp[rN] at hw
 obtain⟨r,hr⟩:∃r,l.length- 1- j=r+1:=⟨l.length- 1- j- 1,by omega⟩;rw[hr,Cb] at bu;refine⟨λi w' q=>(i=0/\q=1/\w'=fZ)\/(i=1/\q=0/\V O (ab b (cO (pre++(h+1)::(h- t+la+1)::List.replicate r 0)).toArray 3*(ab k #[aa (max aR (h- t+la))] 3*F)) w'),⟨1,.inl ⟨rfl,rfl,rfl⟩⟩,?_⟩;rintro u _ dH _ (⟨rfl,rfl,rfl⟩|⟨rfl,rfl,bY⟩)
 .have pL:=fS bu.p2 (i:=j+1) (by rw[<-hp];exact afk _ _ _ _);have Q7:∀{K:Addr->Prop},K ⟨b,j+1,none⟩->ba (aU b) l.length ((j:Int)+1) 1 K:=λ{_} hk=>GG (by omega) (by omega) (by rwa[show((j:Int)+1).toNat=j+1 by omega]);refine aW rfl<|GG (by decide) (by decide)<|az (n:=(j:Int)+1) (fS bu.p1 rfl)<|Q7<|az pL<|aw rfl<|aY (by omega) (by omega)<|Q7<|pK bu.p2 (by simp[cO];omega) λnN dZ=>aY (by omega) (by omega) ⟨0,by decide,.inr ⟨rfl,rfl,?_⟩⟩;rw[<-hp,afl] at dZ;exact(dZ.p2.p2.g1).right
 .refine aw rfl<|aY (by omega) (by omega) ⟨_,?_,j+1,by omega,rfl,pre++[h+1],h- t+la,max aR (h- t+la),by simp[hp],by omega,by omega,.inl ⟨aQ,hw,?_⟩⟩
  .omega
  .have e1:l.length- 1- (j+1)=r:=by omega
   rw[e1,iy];exact bY
theorem Q8 {l:List ig} {p:av} {c:Nat} {slots m:Int} (hG:bd F 3 p l.length (l.flatMap j3)) (h1:1<=l.length) (h2:l.length<=32) (hw:rN slots l 0 0=some m) (h:V O F w): ae 299 #[af p l.length c,aa slots] w λv w'=>v=ak #[aa m,aa 0,aa 0]/\V O F w':=by apply ZE;refine aG h λk w1 ha=>ay (afn hG h1 h2 hw ha) ?_;rintro _ w2 ⟨rfl,hb⟩;refine⟨_,_,rfl,aw rfl<|az (n:=m) (fS hb rfl)<|pK hb (by simp) λw3 hc=>az (n:=m) (fS hc rfl) ⟨rfl,hc.right⟩⟩
end
theorem Q9:fe au 100 99 (an (pJ ⟨0,0,0⟩)) 3 24:=⟨by kernel_rfl,by kernel_rfl,rfl,by decide⟩
theorem Ra:fe au 354 2 (aa 0) 1 8:=⟨by kernel_rfl,by kernel_rfl,rfl,by decide⟩
def oc (p:av) (n c:Nat) (arg:Int) (aj:Nat) (q:av) (m d:Nat) (ov:Bool):aM:=#[af p n c,aa arg,aa aj,af q m d,aC false,aC ov]
def nv (k:Nat) (f:pE) (ov:Bool):HP:=ex λ(p:av)=>ex λ(c:Nat)=>ex λ(q:av)=>ex λ(d:Nat)=>
 ab k (oc p f.code.length c f.arg f.aj q f.stack.length d ov) 521*(aE 99 3 j3 p f.code.length c f.code*own 2 1 q f.stack.length d (cO f.stack))
abbrev mX (k:Nat) (f:pE):HP:=nv k f false
section
variable {O w:ao} {F:HP} {k:Nat} {f:pE} {ov:Bool}
theorem nv.aK (h:V O (nv k f ov*F) w):∃p c q d,V O (ab k (oc p f.code.length c f.arg f.aj q f.stack.length d ov) 521*(aE 99 3 j3 p f.code.length c f.code*(own 2 1 q f.stack.length d (cO f.stack)*F))) w:=by obtain⟨p,h⟩:=h.ex;obtain⟨c,h⟩:=h.ex;obtain⟨q,h⟩:=h.ex;obtain⟨d,h⟩:=h.ex;exact⟨p,c,q,d,h.a.p1.a.p2⟩
theorem nv.aI {p q:av} {n c m d:Nat} (hn:f.code.length=n) (hm:f.stack.length=m) (h:V O (ab k (oc p n c f.arg f.aj q m d ov) 521*(aE 99 3 j3 p n c f.code*(own 2 1 q m d (cO f.stack)*F))) w):V O (nv k f ov*F) w:=by subst hn hm;exact(((h.g2).bO d).bO q|>.bO c).bO p
theorem Rb {p:av} {c:Nat} {l:List ig} (h:V O F w) (hG:bd F 3 p l.length (l.flatMap j3)) (hl:l.length<=1000): ae 336 #[af p l.length c] w λv w'=>∃q d,v=af q l.length d/\V O (aE 99 3 j3 q l.length d l*F) w':=by
 apply ZI;refine cy (λhn=> ?_) (λhn=> ?_)
 .have hp:p=none:=by cases p with|none=>rfl|some a=>simp at hn
  have h0:l=[]:=by
   apply m5;rcases wH l.length with h0|h0
   .exact h0
   .obtain⟨a,e⟩:=(hG _ _ h).2.1 h0;rw[hp] at e;cases e
  subst h0;exact⟨none,0,rfl,fE _ _ _ h⟩
 .refine aG h λk1 w1 h1=> ?_;have h2:=h1.lx (t:=99) (sz:=3) (n:=0) rfl (by decide);refine lW Q9 h2 (hG _ _ h2.right) (λu hu=> ?_) (by simp only[maxLen];omega) (by omega) λp' c' w' h3=> ?_
  .exact yG Q6 u hu
  .rw[dc];rw[dc] at h3;exact⟨p',c',rfl,h3⟩
theorem afp {p:av} {c:Nat} {l:List ig} {m arg:Int} (h:V O F w) (hG:bd F 3 p l.length (l.flatMap j3)) (h1:1<=l.length) (h2:l.length<=32) (hw:rN 8 l 0 0=some m): ae 267 #[af p l.length c,aa arg] w λv w'=>∃k,v=ak #[al k,aa 0]/\V O (mX k ⟨l,arg,0,[]⟩*F) w':=by apply Zz;refine ay (Q8 hG h1 h2 hw h) ?_;rintro _ w1 ⟨rfl,ha⟩;refine⟨_,_,_,rfl,aw rfl<|ay (Rb ha hG (by omega)) ?_⟩;rintro _ w2 ⟨q,d,rfl,hb⟩;refine iE<|aG hb λk w3 hc=>⟨k,rfl,?_⟩;refine nv.aI (p:=q) (c:=d) (q:=none) (d:=0) (m:=0) rfl rfl ?_;exact(hc.iZ 2 1).aF (by ac_rfl)
theorem KZ {x:Int} (hl:f.stack.length<=1000) (h:V O (mX k f*F) w):ae 268 #[al k,aa x] w λv w'=>v=aT/\V O (mX k {f with stack:=f.stack++[x]}*F) w':=by
 apply ZA;obtain⟨p,c,q,d,h⟩:=nv.aK h;refine aq<|aN (aB h (i:=3) rfl)<|aG h λk3 w1 h1=> ?_;have h1:V O (ab k3 #[aa x] 2*(own 2 1 q f.stack.length d (cO f.stack)*(ab k (oc p f.code.length c f.arg f.aj q f.stack.length d false) 521*(aE 99 3 j3 p f.code.length c f.code*F)))) w1:=h1.p3.p1;refine oG Ra h1 rfl (by simp only[maxLen];omega) (by omega) λp4 c4 w2 h2=>aq<|bD (i:=3) h2.p1 (by simp[oc]) λw3 h3=>⟨rfl,?_⟩;refine nv.aI (f:={f with stack:=f.stack++[x]}) (p:=p) (c:=c) (q:=p4) (d:=c4) (m:=f.stack.length+1) rfl (by simp) ?_;have e:cO (f.stack++[x])=cO f.stack++[aa x]:=by simp[cO]
 show V O (_*(_*(own 2 1 p4 (f.stack.length+1) c4 (cO (f.stack++[x]))*F))) w3;rw[e];exact h3.aF (by show _*(_*(_*F))=_;simp only[oc];ac_rfl)
theorem afq {l:aJ} {x:Int} (h:l.getLast?=some x):0<l.length/\(cO l)[l.length- 1]?=some (aa x):=by rw[List.getLast?_eq_getElem?] at h;have:=(ct.1 h).1;exact⟨by omega,by simp[cO,h]⟩
theorem GJ {x:Int} (hx:f.stack.getLast?=some x) (hl:f.stack.length<=1000) (h:V O (nv k f ov*F) w):ae 269 #[al k] w λv w'=>v=aa x/\V O (nv k {f with stack:=f.stack.dropLast} ov*F) w':=by
 apply ZB;obtain⟨p,c,q,d,h⟩:=nv.aK h;obtain⟨h0,hg⟩:=afq hx;have ho:=h.p2;refine aq<|aN (aB h (i:=3) rfl)<|aY (by omega) (by omega)<|aq<|aN (aB h (i:=3) rfl)<|fM ho.left.rd (by omega) (by omega) λa ha=>az (n:=x) ?_<|aq<|aN (aB h (i:=3) rfl)<|ur ho (by omega) (by omega) ?_
 .rw[show((f.stack.length:Int)- 1).toNat*1=f.stack.length- 1 by omega];exact ho.left.rd.get ha hg
 refine aq<|bD (i:=3) h (by simp[oc]) λw1 h1=>⟨rfl,?_⟩;have e1:((f.stack.length:Int)- 1).toNat=f.stack.length- 1:=by omega
 have h2:=Fu (l':=f.stack.length- 1) h1.p2 (by omega);have e2:(cO f.stack).take ((f.stack.length- 1)*1)=cO f.stack.dropLast:=by rw[jT,List.dropLast_eq_take];simp[cO,wJ]
 rw[e2] at h2;rw[e1] at h2;refine nv.aI (f:={f with stack:=f.stack.dropLast}) (p:=p) (c:=c) (q:=q) (d:=d) (m:=f.stack.length- 1) rfl (by simp) ?_;exact h2.aF (by simp only[oc];ac_rfl)
def DC (kd n:Int):aM:=if kd=1 then#[aa 1,aa 0,aa 0,aa n,aa 0] else#[aa 3,aa n,aa 0,aa 0,aa 0]
theorem afr:∀(n:Nat) (f:pE) (v:Int) (r:pE×Int×Int×Int),qB n f v=some r->(r.2.1=1\/r.2.1=3)/\r.1.code=f.code/\r.1.arg=f.arg:=by
 intro n;induction n with
 |zero=>intro f v r h;simp[qB] at h
 |succ n ih=>
  intro f v r h;unfold qB at h;split at h
  .cases h
  split at h
  .cases h
  rename_i x hx;dsimp only at h;split at h
  .have q:=ih _ _ _ h;exact q
  split at h
  .have q:=ih _ _ _ h;exact q
  split at h
  .obtain⟨y,_,h⟩:=bZ.1 h;have q:=ih _ _ _ h;exact q
  split at h
  .obtain⟨y,_,h⟩:=bZ.1 h;obtain⟨z,_,h⟩:=bZ.1 h;split at h
   .have q:=ih _ _ _ h;exact q
   .cases h
  split at h
  .cases h;exact⟨.inr rfl,rfl,rfl⟩
  split at h
  .obtain⟨y,_,e⟩:=dd.1 h;cases e;exact⟨.inl rfl,rfl,rfl⟩
  .cases h
theorem afs {n:Nat} {res v:Int} {r:pE×Int×Int×Int} (hn:f.code.length<=32) (hm:qB n f v=some r) (h:V O (mX k f*F) w): ae 179 #[al k,aa res,aa v] w λu w'=>u=ak #[an (DC r.2.1 r.2.2.1),aa r.2.2.2]/\(r.2.1=1/\V O F w'\/r.2.1=3/\V O (mX k r.1*F) w'):=by
 apply Zq;refine aG h λk1 w1 h1=> ?_;have hz:V O (mX k f*(ab k1 #[aa 0,aa 0,aa 0,aa 0,aa 0] 405*F)) w1:=h1.p1;clear h1;obtain⟨p0,c0,q0,d0,ho⟩:=nv.aK hz;refine aw rfl<|aq<|gQ (n:=false) (aB ho (i:=5) rfl)<|aw rfl ⟨λw'=>w'=w1,aq<|gQ (n:=false) (aB ho (i:=4) rfl)<|aw rfl rfl,?_⟩;rintro u w2 rfl;refine⟨λv' w' m=>∃g:pE,qB m g v'=some r/\g.code=f.code/\V O (mX k g*(ab k1 #[aa 0,aa 0,aa 0,aa 0,aa 0] 405*F)) w',⟨n,f,hm,rfl,hz⟩,?_⟩;clear ho hz hm u;rintro u v' w3 m ⟨g,hm,hc,h3⟩;obtain⟨p,c,q,d,ho⟩:=nv.aK h3.drew;cases m with
 |zero=>simp[qB] at hm
 |succ m=>
 unfold qB at hm;split at hm
 .cases hm
 rename_i dk;split at hm
 .cases hm
 rename_i x hx;have aQ:=(ct.1 hx).1;have j8:g.code.length<=32:=by rw[hc];exact hn
 refine aq<|aN (aB ho (i:=0) rfl)<|aq<|az (n:=(g.aj:Int)) (aB ho (i:=2) rfl)<|kZ GF (by decide) ho.right.left.rd (by omega) (by rw[cu];exact hx) λa ha=>nu rfl ha<|aG ho λsu w4 h4=>bL h4 rfl rfl (KY x) λw5 h5=>aq<|az (n:=(g.aj:Int)) (aB h5.p1 (i:=2) rfl)<|aY (by omega) (by omega)<|aq<|bD (i:=2) h5.p1 (by simp[oc]) λw6 h6=> ?_;have e1:(oc p g.code.length c g.arg g.aj q g.stack.length d false).setIfInBounds 2 (aa ((g.aj:Int)+1))=oc p g.code.length c g.arg (g.aj+1) q g.stack.length d false:=by simp[oc]
 rw[e1] at h6;have hk:=h6.p1;have h7:=nv.aI (f:={g with aj:=g.aj+1}) (F:=ab su (pJ x) 99*(ab k1 #[aa 0,aa 0,aa 0,aa 0,aa 0] 405*F)) (p:=p) (q:=q) (c:=c) (d:=d) rfl rfl (h6.aF (by ac_rfl));dsimp only at hm;generalize yo:({g with aj:=g.aj+1}:pE)=g' at h7;have ea:g.arg=g'.arg:=by rw[<-yo]
 have es:g.stack=g'.stack:=by rw[<-yo]
 have ec:g.code=g'.code:=by rw[<-yo]
 have eat:g.aj+1=g'.aj:=by rw[<-yo]
 simp only[ea,es,ec,eat] at hm dk;rw[hc] at ec;clear yo;obtain⟨op,xa,xb⟩:=x;dsimp only at hm;have wY:∀{w':ao} {g2:pE} {v2:Int},qB m g2 v2=some r->g2.code=g'.code->V O (mX k g2*(ab su (pJ ⟨op,xa,xb⟩) 99*(ab k1 #[aa 0,aa 0,aa 0,aa 0,aa 0] 405*F))) w'->∃Rc,Rc<m+1/\∃g:pE,qB Rc g v2=some r/\g.code=f.code/\V O (mX k g*(ab k1 #[aa 0,aa 0,aa 0,aa 0,aa 0] 405*F)) w':=λ{w' g2 v2} h1 h2 h3=>⟨m,by omega,g2,h1,by rw[h2,<-ec],h3.p1.right⟩;refine az (n:=op) (aB hk (i:=0) rfl) ?_;split at hm
 .rename_i e;subst e;obtain⟨p2,c2,q2,d2,zh⟩:=nv.aK h7;refine aw rfl<|aW rfl<|aq<|az (n:=g'.arg) (aB zh (i:=1) rfl)<|ay (KZ (by omega) h7) ?_;rintro _ w7 ⟨rfl,h8⟩;exact⟨rfl,wY hm rfl h8⟩
 split at hm
 .rename_i e;subst e;refine aw rfl<|aw rfl<|aW rfl<|ay (KZ (by omega) h7) ?_;rintro _ w7 ⟨rfl,h8⟩;exact⟨rfl,wY hm rfl h8⟩
 split at hm
 .rename_i e;subst e;obtain⟨y,hy,hm⟩:=bZ.1 hm;refine aw rfl<|aw rfl<|aw rfl<|aW rfl<|ay (GJ hy (by omega) h7) ?_;rintro _ w7 ⟨rfl,h8⟩;exact bI (wY hm rfl h8)
 split at hm
 .rename_i e;subst e;obtain⟨y,hy,hm⟩:=bZ.1 hm;obtain⟨z,hz,hm⟩:=bZ.1 hm;split at hm
  .rename_i hb;refine aw rfl<|aw rfl<|aw rfl<|aw rfl<|aW rfl<|ay (GJ hy (by omega) h7) ?_;rintro _ w7 ⟨rfl,h8⟩;refine bI<|ay (GJ hz (by simp;omega) h8) ?_;rintro _ w8 ⟨rfl,h9⟩;refine bI<|aY (by omega) (by omega)<|ay (KZ (by simp;omega) h9) ?_;rintro _ w9 ⟨rfl,aV⟩;exact⟨rfl,wY hm rfl aV⟩
  .cases hm
 split at hm
 .rename_i e;subst e;cases hm;refine aw rfl<|aw rfl<|aw rfl<|aw rfl<|aw rfl<|aw rfl<|aw rfl<|aw rfl<|aW rfl<|az (n:=xa) (aB hk (i:=1) rfl)<|bL h7.p2 rfl rfl (by simp[Value.oneCell']) λw7 h8=>bz h8 rfl ⟨rfl,.inr ⟨rfl,?_⟩⟩;exact(h8.aF (B:=(ab k1 #[aa 3,aa xa,aa 0,aa 0,aa 0] 405*ab su (pJ ⟨9,xa,xb⟩) 99)*(mX k g'*F)) (by ac_rfl)).right
 split at hm
 .rename_i e;subst e;obtain⟨y,hy,hm⟩:=dd.1 hm;cases hm;obtain⟨p2,c2,q2,d2,zh⟩:=nv.aK h7;have kL:(g'.aj:Int)- 1=((g'.aj- 1:Nat):Int):=by omega
  refine aw rfl<|aw rfl<|aw rfl<|aw rfl<|aw rfl<|aw rfl<|aw rfl<|aw rfl<|aw rfl<|aw rfl<|aW rfl<|aq<|az (n:=(g'.aj:Int)) (aB zh (i:=2) rfl)<|aY (by omega) (by omega)<|aq<|bD (i:=2) zh (by simp[oc]) λw7 h8=>aq<|bD (i:=5) h8 (by simp[oc]) λw8 h9=> ?_;have e2:((oc p2 g'.code.length c2 g'.arg g'.aj q2 g'.stack.length d2 false).setIfInBounds 2 (aa ((g'.aj:Int)- 1))).setIfInBounds 5 (aC true)=oc p2 g'.code.length c2 g'.arg (g'.aj- 1) q2 g'.stack.length d2 true:=by
   have:((g'.aj- 1:Nat):Int)=(g'.aj:Int)- 1:=by omega
   simp[oc,this]
  rw[e2] at h9;have h9:=nv.aI (f:={g' with aj:=g'.aj- 1}) rfl rfl h9;refine ay (GJ (f:={g' with aj:=g'.aj- 1}) hy (by show g'.stack.length<=1000;omega) h9) ?_;rintro _ w9 ⟨rfl,aV⟩;refine bI<|bL aV.p2 rfl rfl (by simp[Value.oneCell']) λdn bu=>bz bu rfl ⟨rfl,.inl ⟨rfl,?_⟩⟩;exact bu.right.right.right
 .cases hm
end
def jy (l:aJ):Bool:=decide (l.length=16)&&l.all λb=>decide (0<=b/\b<=255)
theorem jy.len {l:aJ} (h:jy l=true):l.length=16:=by simp[jy] at h;exact h.1
theorem jy.fN {l:aJ} (h:jy l=true):∀b∈l,0<=b/\b<=255:=by simp[jy] at h;exact h.2
structure oT where
 id:aJ
 base:Int
 ok:jy id=true
deriving DecidableEq
def ic (f:oT):dB:=bc f.id++[aa f.base]
theorem nw (f:oT):(ic f).length=17:=by simp[ic,dh,jy.len f.ok]
theorem DD (f:oT):∀u∈ic f,u.oneCell'=true:=by
 intro u hu;rcases fj.1 hu with h|h
 .exact jt _ u h
 .simp at h;subst h;rfl
structure zi where
 l:List ig
 p:av
 c:Nat
def oU (m:zi):dB:=[af m.p m.l.length m.c]
theorem GK (m:zi):(oU m).length=1:=rfl
theorem afu (m:zi):∀u∈oU m,u.oneCell'=true:=by simp[oU,Value.oneCell']
structure jz where
 id:aJ
 cz:List oT
 slots:Int
 ey:List (List ig)
 ok:jy id=true
deriving DecidableEq
structure cL where
 id:aJ
 cz:List oT
 slots:Int
 ms:List zi
 pf:av
 cf:Nat
 pm:av
 cm:Nat
 ok:jy id=true
def cL.x (y:cL):jz:=⟨y.id,y.cz,y.slots,y.ms.map (·.l),y.ok⟩
def dN (y:cL):dB:=bc y.id++[af y.pf y.cz.length y.cf,aa y.slots,af y.pm y.ms.length y.cm]
theorem fT (y:cL):(dN y).length=19:=by simp[dN,dh,jy.len y.ok]
theorem sL (y:cL):∀u∈dN y,u.oneCell'=true:=by
 intro u hu;rcases fj.1 hu with h|h
 .exact jt _ u h
 .simp at h;rcases h with rfl|rfl|rfl<;>rfl
structure oe (F:HP) (y:cL):Prop where
 cz:bd F 17 y.pf y.cz.length (y.cz.flatMap ic)
 ey:bd F 1 y.pm y.ms.length (y.ms.flatMap oU)
 code:∀m∈y.ms,bd F 3 m.p m.l.length (m.l.flatMap j3)
structure kj (F:HP) (p:av) (ys:List cL):Prop where
 v5:bd F 19 p ys.length (ys.flatMap dN)
 Bw:∀y∈ys,oe F y
theorem oe.left {A B:HP} {y:cL} (h:oe A y):oe (A*B) y:=⟨h.cz.left,h.ey.left,λm hm=>(h.code m hm).left⟩
theorem oe.right {A B:HP} {y:cL} (h:oe B y):oe (A*B) y:=⟨h.cz.right,h.ey.right,λm hm=>(h.code m hm).right⟩
theorem kj.left {A B:HP} {p:av} {ys:List cL} (h:kj A p ys):kj (A*B) p ys:=⟨h.v5.left,λm hm=>(h.Bw m hm).left⟩
theorem kj.right {A B:HP} {p:av} {ys:List cL} (h:kj B p ys):kj (A*B) p ys:=⟨h.v5.right,λm hm=>(h.Bw m hm).right⟩
theorem uX (y:cL):(dN y).toArray[16]?=some (af y.pf y.cz.length y.cf)/\(dN y).toArray[17]?=some (aa y.slots)/\(dN y).toArray[18]?=some (af y.pm y.ms.length y.cm)/\(dN y).toArray.extract 0 16=(bc y.id).toArray:=by
 have hl:(bc y.id).length=16:=by rw[dh];exact jy.len y.ok
 refine⟨?_,?_,?_,?_⟩
 .simp[dN,ix,hl]
 .simp[dN,ix,hl]
 .simp[dN,ix,hl]
 .apply cT;simp[dN,wI,hl]
theorem GL (f:oT):(ic f).toArray[16]?=some (aa f.base)/\(ic f).toArray.extract 0 16=(bc f.id).toArray:=by
 have hl:(bc f.id).length=16:=by rw[dh];exact jy.len f.ok
 refine⟨?_,?_⟩
 .simp[ic,ix,hl]
 .apply cT;simp[ic,wI,hl]
def DE (fs:List oT):Bool:=decide (1<=fs.length/\fs.length<=16)&&(List.range fs.length).all λi=>match fs[i]? with
 |some f=>(if i=0 then decide (f.base= -1) else decide (0<=f.base/\f.base<i))&&decide (fs.findIdx? (λg=>decide (g.id=f.id))=some i)
 |none=>false
theorem GN {fs:List oT} (h:DE fs=true):(1<=fs.length/\fs.length<=16)/\∀(i:Nat) (f:oT),fs[i]?=some f->(i=0->f.base= -1)/\(0<i->0<=f.base/\f.base<(i:Int))/\fs.findIdx? (λg=>decide (g.id=f.id))=some i:=by
 simp only[DE,m6,decide_eq_true_eq,se,vr] at h;refine⟨h.1,λi f hf=> ?_⟩;have h2:=h.2 i (ct.1 hf).1;rw[hf] at h2;simp only[m6,decide_eq_true_eq] at h2;refine⟨λh0=> ?_,λh0=> ?_,h2.2⟩
 .have:=h2.1;rw[if_pos h0] at this;simpa using this
 .have:=h2.1;rw[if_neg (by omega)] at this;simpa using this
def Re (slots:Int) (l:List ig):Bool:=decide (1<=l.length/\l.length<=32)&&(rN slots l 0 0).isSome
def By (c:jz):Bool:=DE c.cz&&(decide (0<=c.slots/\c.slots<=8)&&(decide (1<=c.ey.length/\c.ey.length<=8)&&c.ey.all (Re c.slots)))
def zj (m:List jz):Bool:=decide (1<=m.length/\m.length<=8)&&(m.all By&&(List.range m.length).all λi=>match m[i]? with|some c=>decide (m.findIdx? (λg=>decide (g.id=c.id))=some i)|none=>false)
theorem DF {m:List jz} (h:zj m=true):(1<=m.length/\m.length<=8)/\(∀c∈m,By c=true)/\∀i c,m[i]?=some c->m.findIdx? (λg=>decide (g.id=c.id))=some i:=by simp only[zj,m6,decide_eq_true_eq,se,vr] at h;refine⟨h.1,h.2.1,λi f hf=> ?_⟩;have h2:=h.2.2 i (ct.1 hf).1;rw[hf] at h2;simpa using h2
theorem K0 {c:jz} (h:By c=true):DE c.cz=true/\(0<=c.slots/\c.slots<=8)/\(1<=c.ey.length/\c.ey.length<=8)/\∀l∈c.ey,(1<=l.length/\l.length<=32)/\∃m,rN c.slots l 0 0=some m:=by simp only[By,Re,m6,decide_eq_true_eq,se] at h;refine⟨h.1,h.2.1,h.2.2.1,λl hl=> ?_⟩;obtain⟨a,b⟩:=h.2.2.2 l hl;exact⟨a,Option.isSome_iff_exists.1 b⟩
theorem Rg {α:Type} {q:α->Bool}:∀{l:List α} {i:Nat},l.findIdx? q=some i->(∃y,l[i]?=some y/\q y=true)/\∀j y,j<i->l[j]?=some y->q y=false:=by
 intro l i h;rw[H4] at h;obtain⟨hl,hq,hn⟩:=h;refine⟨⟨_,gm hl,hq⟩,λj y hj hy=> ?_⟩;have h2:=hn j hj;have iM:j<l.length:=by omega
 rw[gm iM] at hy;cases hy;simpa using h2
section
variable {O w:ao} {F:HP}
theorem afv {fs:List oT} {p:av} {c i:Nat} {id:aJ} (gk:id.length=16) (hG:bd F 17 p fs.length (fs.flatMap ic)) (hn:fs.length<=1000) (hi:fs.findIdx? (λg=>decide (g.id=id))=some i) (h:V O F w): ae 356 #[af p fs.length c,an (bc id).toArray] w λv w'=>v=ak #[aa i,aa 0]/\V O F w':=by
 apply ZJ;obtain⟨⟨y,hy,hq⟩,K1⟩:=Rg hi;have aQ:=(ct.1 hy).1;refine aG h λk1 w1 h1=>⟨λn w' m=>∃j:Nat,n=j/\j<=i/\m=i- j/\V O (ab k1 (bc id).toArray 30*F) w',⟨_,0,rfl,by omega,rfl,h1⟩,?_⟩;clear h1;rintro u _ w2 m ⟨j,rfl,hj,rfl,h2⟩;have kn:fs[j]?=some (fs[j]'(by omega)):=by simp[show j<fs.length by omega]
 generalize fs[j]'(by omega)=x at kn;refine aW (by simp;omega)<|kZ nw (by decide) (hG _ _ h2.right) (by omega) (by rw[cu];exact kn) λa ha=>nu (nw x) ha<|aG h2 λk9 w3 h3=>bL h3 rfl (by simp[nw]) (by simpa using DD x) λw4 h4=>ff h4 (by simp[nw]) ?_;rw[(GL x).2];refine bz h4.p1 (by simp[dh,gk])<|AD (jy.len x.ok) gk ?_;by_cases e:x.id=id
 .have oD:j=i:=by
   rcases sY j i with q|q
   .have:=K1 j x q kn;simp[e] at this
   .omega
  subst oD;exact aW (by simpa using e) ⟨rfl,h4.right.right⟩
 .have oD:j≠i:=by rintro rfl;rw[kn] at hy;cases hy;simp at hq;exact e hq
  refine aw (by simpa using e)<|aY (by omega) (by omega) ⟨_,?_,j+1,by omega,by omega,rfl,h4.right⟩;omega
theorem afw {fs:List oT} {p:av} {c:Nat} (hG:bd F 17 p fs.length (fs.flatMap ic)) (hk:DE fs=true) (h:V O F w): ae 298 #[af p fs.length c] w λv w'=>v=aa 0/\V O F w':=by
 obtain⟨⟨n1,n2⟩,kL⟩:=GN hk;apply ZD;refine aw (by simp;omega)<|aw (by simp;omega) ⟨λn w' m=>∃j:Nat,n=j/\j<=fs.length/\m=fs.length- j/\V O F w',⟨_,0,rfl,by omega,rfl,h⟩,?_⟩;clear h;rintro u _ w1 m ⟨j,rfl,hj,rfl,h1⟩;refine bU (λaQ=> ?_) (λbW=>⟨rfl,h1⟩);have kn:fs[j]?=some (fs[j]'(by omega)):=by simp[show j<fs.length by omega]
 generalize fs[j]'(by omega)=x at kn;obtain⟨a0,a1,a2⟩:=kL j x kn;refine kZ nw (by decide) (hG _ _ h1) (by omega) (by rw[cu];exact kn) λa ha=>nu (nw x) ha<|aG h1 λk8 w2 h2=>bL h2 rfl (by simp[nw]) (by simpa using DD x) λw3 h3=>⟨λw'=>w'=w3,?_,?_⟩
 .have hb:=aB h3 (i:=16) (GL x).1;by_cases e:j=0
  .subst e;exact aW rfl<|az hb<|aw (by rw[a0 rfl];rfl)<|aw rfl rfl
  .obtain⟨b1,b2⟩:=a1 (by omega);exact aw (by simp;omega)<|aW (by simp;omega)<|az hb<|aw (by simp;omega)<|az hb<|aw (by simp;omega) rfl
 rintro u w4 rfl;refine ff h3 (by simp[nw]) ?_;rw[(GL x).2];refine ay (afv (jy.len x.ok) hG (by omega) a2 h3.right) ?_;rintro _ w5 ⟨rfl,h5⟩;refine⟨_,_,rfl,aw rfl<|aw (by simp)<|aY (by omega) (by omega) ⟨_,?_,j+1,by omega,by omega,rfl,h5⟩⟩;omega
theorem afx {y:cL} (hG:oe F y) (hk:By y.x=true) (h:V O F w):ae 226 #[an (dN y).toArray] w λv w'=>v=aa 0/\V O F w':=by
 obtain⟨c1,c2,c3,c4⟩:=K0 hk;have hs:y.x.slots=y.slots:=rfl;have CV:y.x.ey.length=y.ms.length:=by simp[cL.x]
 obtain⟨uY,xK,uZ,_⟩:=uX y;apply Zs;refine aG h λk1 w1 h1=>aN (aB h1 (i:=16) uY)<|ay (afw (F:=ab k1 (dN y).toArray 66*F) hG.cz.right c1 h1) ?_;rintro _ w2 ⟨rfl,h2⟩;refine bI<|aw rfl<|az (aB h2 (i:=17) xK)<|aw (by simp;omega)<|az (aB h2 (i:=17) xK)<|aw (by simp;omega)<|aN (aB h2 (i:=18) uZ)<|aw (by simp;omega)<|aN (aB h2 (i:=18) uZ)<|aw (by simp;omega)<|aN (aB h2 (i:=18) uZ) ?_;refine⟨λn w' m=>∃j:Nat,n=j/\j<=y.ms.length/\m=y.ms.length- j/\V O (ab k1 (dN y).toArray 66*F) w',⟨_,0,rfl,by omega,rfl,h2⟩,?_⟩;clear h1 h2;rintro u _ w3 m ⟨j,rfl,hj,rfl,h3⟩;refine bU (λaQ=> ?_) (λbW=>⟨rfl,h3.right⟩);have kn:y.ms[j]?=some (y.ms[j]'(by omega)):=by simp[show j<y.ms.length by omega]
 have lK:y.ms[j]'(by omega)∈y.ms:=sd _;generalize y.ms[j]'(by omega)=x at kn lK;obtain⟨⟨l1,l2⟩,mx,hw⟩:=c4 x.l (fC.2 ⟨x,lK,rfl⟩);refine kZ GK (by decide) (hG.ey _ _ h3.right) (by omega) (by rw[cu];exact kn) λa ha=>aN (by simpa[Sp.add_zero] using ha 0 _ rfl)<|az (aB h3 (i:=17) xK)<|ay (Q8 (F:=ab k1 (dN y).toArray 66*F) (hG.code x lK).right l1 l2 hw h3) ?_;rintro _ w4 ⟨rfl,h4⟩;refine⟨_,_,_,rfl,aw rfl<|aY (by omega) (by omega) ⟨_,?_,j+1,by omega,by omega,rfl,h4⟩⟩;omega
theorem afy {y:cL} {k:Nat} {id:aJ} (gk:id.length=16) (h:V O (ab k (bc id).toArray 30*F) w):ae 173 #[an (dN y).toArray,al k] w λv w'=>v=aC (decide (y.id=id))/\V O (ab k (bc id).toArray 30*F) w':=by apply Zp;refine aG h λk1 w1 h1=>ff h1 (by simp[fT]) ?_;rw[(uX y).2.2.2];exact bz h1.p1 (by simp[dh,gk])<|AD (jy.len y.ok) gk ⟨rfl,h1.right⟩
theorem Rh {ys:List cL} {p:av} {c i:Nat} {id:aJ} (gk:id.length=16) (hG:kj F p ys) (hn:ys.length<=8) (hi:ys.findIdx? (λg=>decide (g.id=id))=some i) (h:V O F w): ae 97 #[an #[af p ys.length c],an (bc id).toArray] w λv w'=>v=ak #[aa i,aa 0]/\V O F w':=by
 apply Zh;obtain⟨⟨y,hy,hq⟩,K1⟩:=Rg hi;have aQ:=(ct.1 hy).1;refine aG h λk1 w1 h1=>aG h1 λk2 w2 h2=>aN (aB h2.p1 (i:=0) rfl)<|ay (K:=λv w'=>v=aa i/\V O F w') ?_ ?_;rotate_left
 .rintro _ w3 ⟨rfl,h3⟩;exact bI<|aw (by simp) ⟨rfl,h3⟩
 apply Zo;refine⟨λn w' m=>∃j:Nat,n=j/\j<=i/\m=i- j/\V O (ab k2 (bc id).toArray 30*F) w',⟨_,0,rfl,by omega,rfl,(h2.p1.right)⟩,?_⟩;clear h1 h2;rintro u _ w3 m ⟨j,rfl,hj,rfl,h3⟩;have kn:ys[j]?=some (ys[j]'(by omega)):=by simp[show j<ys.length by omega]
 generalize ys[j]'(by omega)=x at kn;refine aW (by simp;omega)<|kZ fT (by decide) (hG.v5 _ _ h3.right) (by omega) (by rw[cu];exact kn) λa ha=>nu (fT x) ha<|Bt Tryz.func173 rfl<|ay (afy gk h3) ?_;rintro _ w4 ⟨rfl,h4⟩;refine cR ?_;by_cases e:x.id=id
 .have oD:j=i:=by
   rcases sY j i with q|q
   .have:=K1 j x q kn;simp[e] at this
   .omega
  subst oD;exact aW (by simpa using e) ⟨rfl,h4.right⟩
 .have oD:j≠i:=by rintro rfl;rw[kn] at hy;cases hy;simp at hq;exact e hq
  refine aw (by simpa using e)<|aY (by omega) (by omega) ⟨_,?_,j+1,by omega,by omega,rfl,h4⟩;omega
theorem Ri {ys:List cL} {id:aJ}:ys.findIdx? (λg=>decide (g.id=id))=(ys.map cL.x).findIdx? (λg=>decide (g.id=id)):=by rw[List.findIdx?_map];rfl
theorem afz {ys:List cL} {p:av} {c:Nat} (hG:kj F p ys) (hk:zj (ys.map cL.x)=true) (h:V O F w): ae 137 #[an #[af p ys.length c]] w λv w'=>v=ak #[aa 0,aa 0]/\V O F w':=by
 obtain⟨⟨n1,n2⟩,hc,kL⟩:=DF hk;simp only[fk] at n1 n2;apply Zj;refine aG h λk1 w1 h1=>aN (aB h1 (i:=0) rfl)<|aw (by simp;omega)<|aN (aB h1 (i:=0) rfl)<|aw (by simp;omega)<|aN (aB h1 (i:=0) rfl) ?_;refine⟨λn w' m=>∃j:Nat,n=j/\j<=ys.length/\m=ys.length- j/\V O (ab k1 #[af p ys.length c] 69*F) w',⟨_,0,rfl,by omega,rfl,h1⟩,?_⟩;clear h1;rintro u _ w2 m ⟨j,rfl,hj,rfl,h2⟩;refine bU (λaQ=> ?_) (λbW=>⟨rfl,h2.right⟩);have kn:ys[j]?=some (ys[j]'(by omega)):=by simp[show j<ys.length by omega]
 have lK:ys[j]'(by omega)∈ys:=sd _;generalize ys[j]'(by omega)=x at kn lK;refine kZ fT (by decide) (hG.v5 _ _ h2.right) (by omega) (by rw[cu];exact kn) λa ha=>nu (fT x) ha<|aG h2 λv7 w3 h3=>bL h3 rfl (by simp[fT]) (by simpa using sL x) λw4 h4=>bz h4 (by simp[fT])<|ay (afx (F:=ab v7 (dN x).toArray 66*(ab k1 #[af p ys.length c] 69*F)) (hG.Bw x lK).right.right (hc _ (fC.2 ⟨x,lK,rfl⟩)) h4) ?_;rintro _ w5 ⟨rfl,h5⟩;refine bI<|aw rfl<|bz h5.p1 rfl<|ff h5 (by simp[fT]) ?_;rw[(uX x).2.2.2];refine ay (Rh (i:=j) (F:=ab v7 (dN x).toArray 66*(ab k1 #[af p ys.length c] 69*F)) (jy.len x.ok) hG.right.right (by omega) ?_ h5) ?_
 .rw[Ri];exact kL j x.x (by simp[kn])
 rintro _ w6 ⟨rfl,h6⟩;refine⟨_,_,rfl,aw (by simp)<|aY (by omega) (by omega) ⟨_,?_,j+1,by omega,by omega,rfl,h6.right⟩⟩;omega
theorem afA {y:cL} {i:Int} {m:zi} (hG:oe F y) (h0:0<=i) (hm:y.ms[i.toNat]?=some m) (hl:m.l.length<=1000) (h:V O F w):ae 266 #[an (dN y).toArray,aa i] w λv w'=>∃q d,v=ak #[af q m.l.length d,aa 0]/\V O (aE 99 3 j3 q m.l.length d m.l*F) w':=by have aQ:=(ct.1 hm).1;have lK:=dF hm;apply Zy;have uZ:=(uX y).2.2.1;refine aG h λk1 w1 h1=>aw (by simp;omega)<|aN (aB h1 (i:=18) uZ)<|aw (by simp;omega)<|aN (aB h1 (i:=18) uZ)<|kZ GK (by decide) (hG.ey _ _ h1.right) h0 hm λa ha=>aN (by simpa[Sp.add_zero] using ha 0 _ rfl)<|ay (Rb h1.right (hG.code m lK) hl) ?_;rintro _ w2 ⟨q,d,rfl,h2⟩;exact iE ⟨q,d,rfl,h2⟩
end
def jN (x:ig):aJ:=[x.op%256,x.b%256,x.a%4294967296%256,x.a%4294967296/ 256%256,x.a%4294967296/ 65536%256,x.a%4294967296/ 16777216%256]
def ny (l:List ig):aJ:=((l.length:Int)%256)::l.flatMap jN
def ku (f:oT):aJ:=f.id++[(f.base+1)%256]
def v8 (c:jz):aJ:=[c.slots%256,(c.ey.length:Int)%256]++c.ey.flatMap ny
def kv (c:jz):aJ:=(c.id++[(c.cz.length:Int)%256])++(c.cz.flatMap ku++v8 c)
def dE (m:List jz):aJ:=((m.length:Int)%256)::m.flatMap kv
theorem GO {α:Type} {f:α->aJ} {acc t jh:aJ} {l:List α} {j:Nat} {x:α} (hx:l[j]?=some x) (h:acc++((l.drop j).flatMap f++t)=jh):acc++(f x++((l.drop (j+1)).flatMap f++t))=jh:=by obtain⟨aQ,rfl⟩:=ct.1 hx;rw[ll aQ,jE,iy] at h;exact h
theorem GP {α:Type} {f:α->aJ} {acc t jh:aJ} {l:List α} {j:Nat} (hj:l.length<=j) (h:acc++((l.drop j).flatMap f++t)=jh):acc++t=jh:=by rw[mJ hj] at h;simpa using h
section
variable {O w:ao} {F:HP}
theorem DG {p q:av} {l c m d:Nat} {acc news jh t:aJ} {K:av->Nat->Nat->ao->Prop} (h:V O (own 5 1 p l c (bc acc)*F) w) (hr:Rd w 1 q m (bc news)) (hf:acc++(news++t)=jh) (hl:jh.length<=100000) (hk:∀p' c' w',V O (own 5 1 p' (l+m) c' (bc (acc++news))*F) w'->K p' (l+m) c' w'):bR au (Builtin.append_ #[192,192] 192 #[af p l c,af q m d]) w K:=by
 have h1:=Fq h.left;have h2:=hr.wX;have h3:l+m<=100000:=by have:=congrArg List.length hf;simp only[gp] at this;omega
 refine lW CD h hr (jt _) (by simp only[maxLen];omega) (by omega) λp' c' w' h4=>hk p' c' w' ?_;rw[pt];exact h4
theorem xL {p:av} {l c k:Nat} {acc news jh t:aJ} {K:av->Nat->Nat->ao->Prop} (h:V O (ab k (bc news).toArray 5*(own 5 1 p l c (bc acc)*F)) w) (hf:acc++(news++t)=jh) (hl:jh.length<=100000) (hk:∀p' c' w',V O (own 5 1 p' (l+news.length) c' (bc (acc++news))*F) w'->K p' (l+news.length) c' w'):bR au (Builtin.append_ #[192,192] 192 #[af p l c,af (aU k) news.length news.length]) w K:=by refine DG h.right ?_ hf hl hk;have:=h.left.uk (sz:=1) (l:=news.length) (by simp[dh]);simpa using this
theorem Rj {k:Nat} {K:av->Nat->Nat->Prop} (hk:K (aU k) 16 16):fD (some ((aD k).add 0)) 16 1 0 16 K:=by rw[Sp.add_zero];refine oI (by decide) (by decide) (by decide) ?_;simpa[Sp.add_zero] using hk
theorem GQ {k:Nat} {cs:aM} {t:TypeId} {id:aJ} (gk:id.length=16) (hx:cs.extract 0 16=(bc id).toArray) (h:V O (ab k cs t*F) w):Rd w 1 (aU k) 16 (bc id):=by
 refine⟨by rw[dh,gk],λ_=>⟨_,rfl⟩,?_⟩;rintro a e j u hu;cases e;refine aB h ?_;have hj:j<16:=by have:=(ct.1 hu).1;rw[dh,gk] at this;exact this
 have h1:(cs.extract 0 16)[j]?=some u:=by rw[hx];simpa using hu
 rw[ED] at h1;split at h1
 .simpa using h1
 .cases h1
def a4 (a:Int):aJ:=[a%4294967296%256,a%4294967296/ 256%256,a%4294967296/ 65536%256,a%4294967296/ 16777216%256]
theorem K2 (x:ig):jN x=[x.op%256,x.b%256]++a4 x.a:=rfl
theorem afB (a:Int) (j:Nat) (hj:j<4):a%4294967296/ 2^(8*j)%256=(a4 a)[j]'(by simpa[a4] using hj):=by
 match j,hj with
 |0,_=>simp[a4]
 |1,_=>simp[a4]
 |2,_=>simp[a4]
 |3,_=>simp[a4]
theorem afC {e:Int} {K:Int->Prop} (hk:K (e%4294967296)):arith .u32 e K:=by
 have e1:IntKind.wrap .u32 e=e%4294967296:=by simp[IntKind.wrap,IntKind.bits,IntKind.signed]
 unfold arith;rw[e1];exact hk
theorem afD {x:ig} {k:Nat} {p:av} {l c:Nat} {acc jh t:aJ} {R:av->Nat->Nat->ao->Prop} (h:V O (own 5 1 p l c (bc acc)*(ab k (pJ x) 99*F)) w) (hf:acc++(a4 x.a++t)=jh) (hl:jh.length<=100000) (hk:∀p' l' c' w',V O (own 5 1 p' l' c' (bc (acc++a4 x.a))*(ab k (pJ x) 99*F)) w'->R p' l' c' w'): ∃K3:av->Nat->Nat->Int->ao->Nat->Prop,(∃m89,K3 p l c 0 w m89)/\ ∀(u90:bo) (K4:av) (K5 K6:Nat) (GR:Int) (CT:ao) (Rk:Nat),K3 K4 K5 K6 GR CT Rk-> br (decide ((GR:Int)<4)) ( ax .i64 ((aD k).add 1) CT λn94=> arith .u32 n94 λn95=> arith .i64 (8*GR) λn96=> shr .u32 n95 n96 λn97=> arith .u8 n97 λn98=> new #[.int .u8 n98] 5 CT λRl Pd=> bR au (Builtin.append_ #[192,192] 192 #[af K4 K5 K6,af (aU Rl) 1 1]) Pd λafK afL afM Pe=> arith .i64 (GR+1) λafN=> ∃Rm,Rm<Rk/\K3 afK afL afM afN Pe Rm) (R K4 K5 K6 CT):=by
 refine⟨λp' l' c' n w' m=>∃j:Nat,n=j/\j<=4/\m=4- j/\V O (own 5 1 p' l' c' (bc (acc++(a4 x.a).take j))*(ab k (pJ x) 99*F)) w',⟨_,0,rfl,by decide,rfl,by simpa using h⟩,?_⟩;clear h;rintro u p' l' c' _ w1 m ⟨j,rfl,hj,rfl,h1⟩;refine bU (λaQ=> ?_) (λbW=>hk _ _ _ _ ?_)
 .have hj4:j<4:=by omega
  refine az (n:=x.a) (aB h1.p1 (i:=1) rfl)<|afC<|aY (by omega) (by omega)<|uq (by omega) (by show 8*(j:Int)<=32;omega)<|qn<|aG h1 λRl w2 h2=> ?_;have e2:(8*(j:Int)).toNat=8*j:=by omega
  rw[e2] at h2;have ht:(a4 x.a).take (j+1)=(a4 x.a).take j++[x.a%4294967296/ 2^(8*j)%256]:=by rw[afB x.a j hj4,List.take_append_getElem]
  have Ae:(a4 x.a).take (j+1)++((a4 x.a).drop (j+1)++t)=a4 x.a++t:=by rw[<-iy,mK]
  refine xL (news:=[x.a%4294967296/ 2^(8*j)%256]) (t:=(a4 x.a).drop (j+1)++t) h2 ?_ hl λp3 c3 w3 h3=>aY (by omega) (by omega) ⟨_,?_,j+1,by omega,by omega,rfl,?_⟩
  .rw[<-hf,<-Ae,ht];simp
  .omega
  .rw[ht,<-iy];exact h3
 .have e:j=4:=by omega
  subst e;exact h1
theorem Rn {ys:List cL} {p:av} {c:Nat} (hG:kj F p ys) (hk:zj (ys.map cL.x)=true) (hl:(dE (ys.map cL.x)).length<=100000) (h:V O F w): ae 71 #[an #[af p ys.length c]] w λv w'=>∃q n d,v=ak #[af q n d,aa 0]/\V O (own 5 1 q n d (bc (dE (ys.map cL.x)))*F) w':=by
 obtain⟨⟨n1,n2⟩,hc,_⟩:=DF hk;simp only[fk] at n1 n2;apply Za;refine aG h λk1 w1 h1=>bz h1 rfl<|ay (afz hG.right hk h1) ?_;rintro _ w2 ⟨rfl,h2⟩;refine⟨_,_,rfl,aw rfl<|aN (aB h2 (i:=0) rfl)<|qn<|aG h2 λk8 w3 h3=>aN (aB h3.p1 (i:=0) rfl) ?_⟩;obtain⟨jh,fy⟩:∃jh,dE (ys.map cL.x)=jh:=⟨_,rfl⟩;rw[fy] at hl ⊢;have h4:=h3.lx (t:=5) (sz:=1) (n:=1) rfl (by decide);refine⟨λp' l' c' n w' m=>∃j:Nat,n=j/\j<=ys.length/\m=ys.length- j/\∃acc,acc++((ys.drop j).flatMap (λy=>kv y.x)++[])=jh/\V O (own 5 1 p' l' c' (bc acc)*F) w',⟨_,0,rfl,by omega,rfl,[(ys.length:Int)%256],?_,h4.p1.right⟩,?_⟩
 .rw[<-fy];simp[dE,List.flatMap_map]
 clear h1 h2 h3 h4 h;rintro u p1 l1 c1 _ w1 m ⟨j,rfl,hj,rfl,acc,fP,h1⟩;refine bU (λaQ=> ?_) (λbW=>⟨p1,l1,c1,rfl,?_⟩);rotate_left
 .have e:=GP (by omega) fP;rw[jS] at e;subst e;exact h1
 have kn:ys[j]?=some (ys[j]'(by omega)):=by simp[show j<ys.length by omega]
 have lK:ys[j]'(by omega)∈ys:=sd _;generalize ys[j]'(by omega)=y at kn lK;replace fP:=GO kn fP;have K7:=hG.Bw y lK;obtain⟨uY,xK,uZ,e0⟩:=uX y;obtain⟨Ro,c2',c3',c4'⟩:=K0 (hc _ (fC.2 ⟨y,lK,rfl⟩));have CV:y.x.ey.length=y.ms.length:=by simp[cL.x]
 have iQ:y.cz.length<=16:=(GN Ro).1.2;refine kZ fT (by decide) (hG.v5 _ _ h1.right) (by omega) (by rw[cu];exact kn) λa ha=>nu (fT y) ha<|aG h1 λnr w2 h2=>bL h2 rfl (by simp[fT]) (by simpa using sL y) λw3 h3=> ?_;replace h3:V O (own 5 1 p1 l1 c1 (bc acc)*(ab nr (dN y).toArray 66*F)) w3:=h3.p1;clear h1 h2;refine⟨λp' l' c' w'=>V O (own 5 1 p' l' c' (bc (acc++y.id++[(y.cz.length:Int)%256]))*(ab nr (dN y).toArray 66*F)) w',Rj<|aN (aB h3.drew.p1 (i:=16) uY)<|qn ⟨?_,?_⟩,?_⟩
 .have hr:Rd w3.drew 1 (aU nr) 16 (bc y.id):=GQ (jy.len y.ok) e0 h3.drew.p1;refine DG h3.drew hr (t:=[(y.cz.length:Int)%256]++((y.x.cz.flatMap ku++v8 y.x)++((ys.drop (j+1)).flatMap (λy=>kv y.x)++[]))) ?_ hl λp4 c4 w4 h4=>⟨aB h4.p1 (i:=16) uY,aG h4 λlL w5 h5=>xL (news:=[(y.cz.length:Int)%256]) (t:=(y.x.cz.flatMap ku++v8 y.x)++((ys.drop (j+1)).flatMap (λy=>kv y.x)++[])) h5 ?_ hl λp5 c5 w6 h6=>h6⟩
  .rw[<-fP];simp[kv,cL.x]
  .rw[<-fP];simp[kv,cL.x]
 .refine aG h3.drew λvR w4 h4=> ?_;have hr:Rd w4 1 (aU nr) 16 (bc y.id):=GQ (jy.len y.ok) e0 h4.right.p1;refine DG h4.p1 hr (t:=[(y.cz.length:Int)%256]++((y.x.cz.flatMap ku++v8 y.x)++((ys.drop (j+1)).flatMap (λy=>kv y.x)++[]))) ?_ hl λp4 c4 w5 h5=>⟨aB h5.p2 (i:=16) uY,?_⟩
  .rw[<-fP];simp[kv,cL.x]
  .refine xL (news:=[(y.cz.length:Int)%256]) (t:=(y.x.cz.flatMap ku++v8 y.x)++((ys.drop (j+1)).flatMap (λy=>kv y.x)++[])) h5.p1 ?_ hl λp5 c5 w6 h6=>h6;rw[<-fP];simp[kv,cL.x]
 clear h3;rintro u p2 l2 c2 w4 h4;refine aN (aB h4.p1 (i:=16) uY) ?_;obtain⟨T1,fU⟩:∃T1,v8 y.x++((ys.drop (j+1)).flatMap (λy=>kv y.x)++[])=T1:=⟨_,rfl⟩;have tN:(acc++y.id++[(y.cz.length:Int)%256])++((y.cz.drop 0).flatMap ku++T1)=jh:=by rw[<-fP,<-fU];simp[kv,cL.x]
 generalize acc++y.id++[(y.cz.length:Int)%256]=xM at h4 tN;refine⟨λp' l' c' n w' m=>∃i:Nat,n=i/\i<=y.cz.length/\m=y.cz.length- i/\∃acc,acc++((y.cz.drop i).flatMap ku++T1)=jh/\V O (own 5 1 p' l' c' (bc acc)*(ab nr (dN y).toArray 66*F)) w',⟨_,0,rfl,by omega,rfl,xM,tN,h4⟩,?_⟩;clear h4 tN xM fP acc;rintro u p3 l3 c3 _ w5 m ⟨i,rfl,hi,rfl,acc,fP,h5⟩;refine bU (λaQ=> ?_) (λbW=> ?_)
 .have xN:y.cz[i]?=some (y.cz[i]'(by omega)):=by simp[show i<y.cz.length by omega]
  generalize y.cz[i]'(by omega)=f at xN;replace fP:=GO xN fP;obtain⟨f16,f0⟩:=GL f;have hfb:0<=f.base+1/\f.base+1<=1000:=by
   obtain⟨⟨_,q3⟩,q⟩:=GN Ro;obtain⟨q0,q1,_⟩:=q i f xN;rcases wH i with z|z
   .have:=q0 z;omega
   .have:=q1 z;have q3:y.cz.length<=16:=q3;omega
  refine kZ nw (by decide) (K7.cz _ _ h5.right.right) (by omega) (by rw[cu];exact xN) λa ha=>nu (nw f) ha<|aG h5 λK8 w6 h6=>bL h6 rfl (by simp[nw]) (by simpa using DD f) λw7 h7=> ?_;replace h7:V O (own 5 1 p3 l3 c3 (bc acc)*(ab K8 (ic f).toArray 102*(ab nr (dN y).toArray 66*F))) w7:=h7.p1;refine Rj<|az (aB h7.drew.p1 (i:=16) f16)<|aY (by omega) (by omega)<|qn ⟨?_,?_⟩
  .have hr:Rd w7.drew 1 (aU K8) 16 (bc f.id):=GQ (jy.len f.ok) f0 h7.drew.p1;refine DG h7.drew hr (t:=[(f.base+1)%256]++((y.cz.drop (i+1)).flatMap ku++T1)) ?_ hl λp4 c4 w8 h8=>⟨aB h8.p1 (i:=16) f16,aG h8 λk46 w9 h9=>xL (news:=[(f.base+1)%256]) (t:=(y.cz.drop (i+1)).flatMap ku++T1) h9 ?_ hl λp5 c5 dn aV=>aY (by omega) (by omega) ⟨_,?_,i+1,by omega,by omega,rfl,acc++f.id++[(f.base+1)%256],?_,?_⟩⟩
   .rw[<-fP];simp[ku]
   .rw[<-fP];simp[ku]
   .omega
   .rw[<-fP];simp[ku]
   .exact aV.p1.right
  .refine aG h7.drew λRp w8 h8=> ?_;have hr:Rd w8 1 (aU K8) 16 (bc f.id):=GQ (jy.len f.ok) f0 h8.right.p1;refine DG h8.p1 hr (t:=[(f.base+1)%256]++((y.cz.drop (i+1)).flatMap ku++T1)) ?_ hl λp4 c4 w9 h9=>⟨aB (h9.p2) (i:=16) f16,xL (news:=[(f.base+1)%256]) (t:=(y.cz.drop (i+1)).flatMap ku++T1) h9.p1 ?_ hl λp5 c5 dn aV=>aY (by omega) (by omega) ⟨_,?_,i+1,by omega,by omega,rfl,acc++f.id++[(f.base+1)%256],?_,?_⟩⟩
   .rw[<-fP];simp[ku]
   .rw[<-fP];simp[ku]
   .omega
   .rw[<-fP];simp[ku]
   .exact aV.p1.right
 replace fP:=GP (by omega) fP;have hs:y.x.slots=y.slots:=rfl;refine az (aB h5.p1 (i:=17) xK)<|qn<|aN (aB h5.p1 (i:=18) uZ)<|qn<|aG h5 λk59 w6 h6=>xL (news:=[y.slots%256,(y.ms.length:Int)%256]) (t:=y.x.ey.flatMap ny++((ys.drop (j+1)).flatMap (λy=>kv y.x)++[])) h6 ?_ hl λp4 c4 w7 h7=>aN (aB h7.p1 (i:=18) uZ) ?_
 .rw[<-fP,<-fU];simp[v8,cL.x]
 obtain⟨T2,og⟩:∃T2,(ys.drop (j+1)).flatMap (λy=>kv y.x)++[]=T2:=⟨_,rfl⟩;have tN:(acc++[y.slots%256,(y.ms.length:Int)%256])++((y.ms.drop 0).flatMap (λm=>ny m.l)++T2)=jh:=by rw[<-fP,<-fU,<-og];simp[v8,cL.x,List.flatMap_map]
 generalize acc++[y.slots%256,(y.ms.length:Int)%256]=xM at h7 tN;refine⟨λp' l' c' n w' m=>∃i:Nat,n=i/\i<=y.ms.length/\m=y.ms.length- i/\∃acc,acc++((y.ms.drop i).flatMap (λm=>ny m.l)++T2)=jh/\V O (own 5 1 p' l' c' (bc acc)*(ab nr (dN y).toArray 66*F)) w',⟨_,0,rfl,by omega,rfl,xM,tN,h7⟩,?_⟩;clear h5 h6 h7 tN xM fP acc;rintro u p5 l5 c5 _ w8 m ⟨i,rfl,hi,rfl,acc,fP,h8⟩;refine bU (λaQ=> ?_) (λbW=> ?_);rotate_left
 .replace fP:=GP (by omega) fP;refine aY (by omega) (by omega) ⟨_,?_,j+1,by omega,by omega,rfl,acc,?_,h8.p1.right⟩
  .omega
  .rw[<-fP,<-og]
 have xN:y.ms[i]?=some (y.ms[i]'(by omega)):=by simp[show i<y.ms.length by omega]
 have DH:y.ms[i]'(by omega)∈y.ms:=sd _;generalize y.ms[i]'(by omega)=M at xN DH;replace fP:=GO xN fP;obtain⟨⟨m1,m2⟩,_⟩:=c4' M.l (fC.2 ⟨M,DH,rfl⟩);refine kZ GK (by decide) (K7.ey _ _ h8.right.right) (by omega) (by rw[cu];exact xN) λa ha=>aN (by simpa[Sp.add_zero] using ha 0 _ rfl)<|qn<|aG h8 λFT w9 h9=>xL (news:=[(M.l.length:Int)%256]) (t:=M.l.flatMap jN++((y.ms.drop (i+1)).flatMap (λm=>ny m.l)++T2)) h9 ?_ hl λp6 c6 dn aV=> ?_
 .rw[<-fP];simp[ny]
 obtain⟨T3,Rq⟩:∃T3,(y.ms.drop (i+1)).flatMap (λm=>ny m.l)++T2=T3:=⟨_,rfl⟩;have tN:(acc++[(M.l.length:Int)%256])++((M.l.drop 0).flatMap jN++T3)=jh:=by rw[<-fP,<-Rq];simp[ny]
 generalize acc++[(M.l.length:Int)%256]=xM at aV tN;refine⟨λp' l' c' n w' m=>∃r:Nat,n=r/\r<=M.l.length/\m=M.l.length- r/\∃acc,acc++((M.l.drop r).flatMap jN++T3)=jh/\V O (own 5 1 p' l' c' (bc acc)*(ab nr (dN y).toArray 66*F)) w',⟨_,0,rfl,by omega,rfl,xM,tN,aV⟩,?_⟩;clear h8 h9 aV tN xM fP acc;rintro u p7 l7 c7 _ dP m ⟨r,rfl,hr,rfl,acc,fP,bu⟩;refine bU (λaQ=> ?_) (λbW=> ?_);rotate_left
 .replace fP:=GP (by omega) fP;refine aY (by omega) (by omega) ⟨_,?_,i+1,by omega,by omega,rfl,acc,?_,bu⟩
  .omega
  .rw[<-fP,<-Rq]
 have sM:M.l[r]?=some (M.l[r]'(by omega)):=by simp[show r<M.l.length by omega]
 generalize M.l[r]'(by omega)=x at sM;replace fP:=GO sM fP;refine kZ GF (by decide) (K7.code M DH _ _ bu.right.right) (by omega) (by rw[cu];exact sM) λa ha=>nu rfl ha<|aG bu λK9 fF bA=>bL bA rfl rfl (KY x) λfZ bN=>az (n:=x.op) (aB bN (i:=0) rfl)<|qn<|az (n:=x.b) (aB bN (i:=2) rfl)<|qn<|aG bN λOU dH bY=> ?_;replace bY:V O (ab OU (bc [x.op%256,x.b%256]).toArray 5*(own 5 1 p7 l7 c7 (bc acc)*(ab K9 (pJ x) 99*(ab nr (dN y).toArray 66*F)))) dH:=bY.aF (by show _*(_*_)=_*(_*_);ac_rfl);refine xL (news:=[x.op%256,x.b%256]) (t:=a4 x.a++((M.l.drop (r+1)).flatMap jN++T3)) bY ?_ hl λp8 c8 kQ cE=> ?_
 .rw[<-fP,K2];simp
 refine afD (t:=(M.l.drop (r+1)).flatMap jN++T3) cE ?_ hl λp9 l9 c9 nM df=>aY (by omega) (by omega) ⟨_,?_,r+1,by omega,by omega,rfl,acc++[x.op%256,x.b%256]++a4 x.a,?_,df.p1.right⟩
 .rw[<-fP,K2];simp
 .omega
 .rw[<-fP,K2];simp
end
def La (x0:av) (y0 z0:Nat) (R:nE) (w:ao):Prop:=
 new #[aP] 69 w λk1 w1=>
 new #[aC false] 4 w1 λk2 w2=>
 new #[af x0 y0 z0] 478 w2 λk3 w3=>
 ae 228 #[al k3] w3 λv4 w4=>
 bp .i64 v4 λn5=>
 ∃I6:Int->ao->Nat->Prop,(∃m7,I6 0 w4 m7)/\
 ∀(u8:bo) (n9:Int) (w5:ao) (DI:Nat),I6 n9 w5 DI->
 br (decide ((n9:Int)<n5)) (
 aL ((aD k1).add 0) w5.drew λRr Rs Rt=>
 ae 229 #[al k3] w5.drew λv12 w6=>
 jU v12 λRu=>
 w6.cell? ((aD k1).add 0)=some (af Rr Rs Rt)/\
 (Ru:aM).size=19/\
 new Ru 66 w6 λrO w7=>
 bR au (Builtin.append_ #[67,67] 67 #[af Rr Rs Rt,af (aU rO) 1 1]) w7 λp15 l15 c15 w8=>
 st ((aD k1).add 0) (af p15 l15 c15) w8 λw9=>
 arith .i64 (n9+1) λn16=>
 ∃Rv,Rv<DI/\I6 n16 w9 Rv) (
 aA (aD k1) 1 w5 λg18=>
 aS au (aD k1) 1 g18 w5 λdn=>
 st (aD k2) (aC true) dn λdP=>
 aA (aD k1) 1 dP λg19=>
 fL (aD k2) dP λb20=>
 R (ak #[an g19,aC b20]) dP)
noncomputable def Lb:Code:=match Tryz.f138.body with|some c=>c|none=>.skip
noncomputable def DJ:Code:=match Lb with|.seq x _=>x|_=>.skip
noncomputable def GS:Code:=match Lb with|.seq _ (.seq x _)=>x|_=>.skip
noncomputable def DK:Code:=match Lb with|.seq _ (.seq _ x)=>x|_=>.skip
theorem af0:Tryz.f138.body=some (.seq DJ (.seq GS DK)):=by kernel_rfl
@[irreducible] def Lc:qY:=.seq .none (.seq (.seq .none (.aZ (.loop [(11,.int .i64)] (.seq .none (.seq .none (.seq (.aZ (.draw [[],[0],[],[2],[2,3],[0,1,2,3,4],[0,1,2,3,4,5],[0,1,2,3,4,5,6]] (ol [0,1,2,3,4,5,6,7] .nil))) .none)))))) .none)
def DL (R:nE) (a:Act) (w:ao):Prop:=Ak au a.tmps Tryz.f138.results.toList w (Fk R w)
noncomputable def GU:Code:=match Tryz.f227.body with|some c=>c|none=>.skip
noncomputable def Le:Code:=match GU with|.seq x _=>x|_=>.skip
noncomputable def Lf:Code:=match GU with|.seq _ (.seq x _)=>x|_=>.skip
noncomputable def r1X:Code:=match GU with|.seq _ (.seq _ (.cond _ x _))=>x|_=>.skip
noncomputable def Rw:Code:=match GU with|.seq _ (.seq _ (.cond _ _ x))=>x|_=>.skip
theorem af2:Tryz.f227.body=some (.seq Le (.seq Lf (.cond (.tmp 7) r1X Rw))):=by kernel_rfl
theorem af3:Rw=.skip:=by kernel_rfl
noncomputable def Lg:Array Oper:=match Le with|.region _ ops _=>ops|_=>#[]
noncomputable def Lh:Array Oper:=match Lf with|.region _ ops _=>ops|_=>#[]
theorem af4:Le=.region 0 Lg false:=by kernel_rfl
theorem af5:Lf=.region 1 Lh false:=by kernel_rfl
theorem af6 {fn:Func} {t:aM} {w:ao} (h:fn.results=#[]):(results fn t).run au w=.ok aT w:=by simp[results,h]
theorem af7 {a b:Value} {w:ao} {R:Ending->FrameMode->ao->Prop} (h:R (.returned aT) .returning w):CallsD au 227 #[a,b] .returning w R:=by
 refine callsD_of_wpS Tryz.func227 af2 λGV cs hu=> ?_;have hn:Tryz.f227.ntmps=17:=by kernel_rfl
 rw[hn];apply wpS_seq;rw[af4];apply wpS_region;have e0:Lg.size=2:=by kernel_rfl
 have e1:Lg=#[{dst:=some 5,op:=Go.Op.call {callee:=Go.Callee.builtin Go.Builtin.recover,args:=#[],argTypes:=#[]},type:=20,pos:= "class.go:122",after:=#[],guard:=none},{dst:=some 2,op:=Go.Op.assign (Go.Operand.tmp 5),type:=20,pos:= "class.go:122",after:=#[{on:=0,ground:=Go.Ground.data},{on:=0,ground:=Go.Ground.chain},{on:=0,ground:=Go.Ground.phase}],guard:=none}]:=by kernel_rfl
 rw[e1];have hc:recoverD (GV::cs)=none:=by simp[recoverD,hu]
 simp[wpOpsS,go_sem,hc,Exit.thenS,List.range,List.range.loop];apply wpS_seq;rw[af5];apply wpS_region;have e2:Lh.size=2:=by kernel_rfl
 have e3:Lh=#[{dst:=some 6,op:=Go.Op.move (Go.Operand.tmp 2),type:=20,pos:= "class.go:122",after:=#[],guard:=none},{dst:=some 7,op:=Go.Op.binOp Go.BinOp.neq 20 (Go.Operand.tmp 6) (Go.Operand.const Go.Value.nilIface) 20,type:=4,pos:= "class.go:122",after:=#[{on:=0,ground:=Go.Ground.data}],guard:=none}]:=by kernel_rfl
 rw[e3];simp[wpOpsS,go_sem,Exit.thenS,List.range,List.range.loop,Array.replicate];refine wpS_cond (t:=false) (by simp[Act.eval]) ?_;have ec:GV={GV with mode:=.returning}:=by cases GV;simp_all
 rw[if_neg (by simp),af3];exact wpS_of_wp (wp_skip ⟨rfl,.returning,by rw[<-ec],_,af6 (by kernel_rfl),h⟩)
noncomputable def Rx:Array Oper:=match GS with|.region _ ops _=>ops|_=>#[]
theorem af8:GS=.region 1 Rx false:=by kernel_rfl
def GW (a:Act):Act:={tmps:=a.tmps.setIfInBounds 5 (.func (.func 227) #[] #[a.tmps.getD 2 undef,a.tmps.getD 3 undef]),defers:=[{target:=.fn (.func 227) #[a.tmps.getD 2 undef,a.tmps.getD 3 undef],args:=#[]}]}
theorem af9 {a:Act} {w:ao} {Q:Exit->Act->ao->Prop} (hs:a.tmps.size=22) (hd:a.defers=[]) (h:Q .normal (GW a) w):GS.wp au Q a w:=by
 rw[af8];have e1:Rx=#[{dst:=some 5,op:=Go.Op.makeFunc (Go.Fn.func 227) #[] #[Go.Operand.tmp 2,Go.Operand.tmp 3],type:=1,pos:= "class.go:121",after:=#[],guard:=none},{dst:=none,op:=Go.Op.defer {callee:=Go.Callee.value (Go.Operand.tmp 5),args:=#[],argTypes:=#[]},type:=0,pos:= "class.go:121",after:=#[{on:=0,ground:=Go.Ground.data}],guard:=none}]:=by kernel_rfl
 rw[e1];apply wp_region;obtain⟨t,d⟩:=a;simp only at hs hd;subst hd;have h5:5<t.size:=by rw[hs];decide
 simp[wpOps,go_sem,List.range,List.range.loop,h5];simp[GW] at h;exact .inl (.inl h)
theorem aga {x0:av} {y0 z0:Nat} {R:nE} {w:ao} (h:La x0 y0 z0 R w):ae 138 #[af x0 y0 z0] w R:=by
 have h':cmp au true .none DJ {norm:=λa w=>cmp au true Lc DK {norm:=DL R,mq:=[],ret:=DL R} (GW a) w,mq:=[],ret:=λ_ _=>False} {tmps:=#[af x0 y0 z0]++Array.replicate 21 undef,defers:=[]} w:=Eq.mp (by kernel_rfl:La x0 y0 z0 R w=cmp au true .none DJ {norm:=λa w=>cmp au true Lc DK {norm:=DL R,mq:=[],ret:=DL R} (GW a) w,mq:=[],ret:=λ_ _=>False} {tmps:=#[af x0 y0 z0]++Array.replicate 21 undef,defers:=[]} w) h;have hn:Tryz.f138.ntmps=22:=by kernel_rfl
 refine calls_of_wp_defers Tryz.func138 af0 ?_;rw[hn];refine wp_seq (ET.1 (wpIn_mono (IE plain IK DJ none 0 .none _ _ _ h') ?_));rintro e a w1 ⟨vH,hk⟩;have hR:jr DJ=false:=by kernel_rfl
 rw[hR] at vH;cases e with
 |normal=>
  refine wp_seq (af9 (by rw[vH.size];simp) (vH.defers rfl) ?_);have hC:jr DK=false:=by kernel_rfl
  refine ET.1 (wpIn_mono (IE plain IK DK none 0 Lc _ _ _ hk) ?_);rintro e a2 w2 ⟨Ry,mn⟩;rw[hC] at Ry;have hd:=Ry.defers rfl;have fin:∀{w2:ao},DL R a2 w2->Leaves au Tryz.f138 a2.tmps (λe w'=>∃v,e=.returned v/\R v w') a2.defers .returning w2:=by intro w2 hk;rw[hd];obtain⟨v,hr,hR⟩:=NT hk;refine⟨by simp,.func 227,#[a.tmps.getD 2 undef,a.tmps.getD 3 undef],227,#[a.tmps.getD 2 undef,a.tmps.getD 3 undef],rfl,by simp[go_sem,invoke],af7 ⟨v,hr,v,rfl,hR⟩⟩
  cases e with
  |normal=>exact fin mn
  |ret=>exact fin mn
  |exit id=>exact mn.elim
  |goto l=>exact mn.elim
  |panic c=>exact mn.elim
  |outgrown=>exact mn.elim
 |ret=>exact hk.elim
 |exit id=>exact hk.elim
 |goto l=>exact hk.elim
 |panic c=>exact hk.elim
 |outgrown=>exact hk.elim
end Go.Proofs.YtjhnnnfnkjighaaGreatDoor
