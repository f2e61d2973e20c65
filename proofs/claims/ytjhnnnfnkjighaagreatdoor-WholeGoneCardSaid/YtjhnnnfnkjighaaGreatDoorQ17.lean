/- Whole: a part of the proof. No conditions. -/
import Derived.Test.YtjhnnnfnkjighaaGreatDoorQ16
import Derived.Laws.Cover3
set_option linter.unusedVariables false
set_option linter.unusedSimpArgs false
set_option maxRecDepth 100000
namespace Go.Proofs.YtjhnnnfnkjighaaGreatDoor
open Go.Sp Go.RowKit
theorem agb (x y:Nat) (hx:x<2^32) (hy:y<2^32):gr .or .u32 (x:Int) (y:Int)=((x|||y:Nat):Int):=by
 have e:∀z:Nat,z<2^32->(BitVec.ofInt 32 (z:Int)).toNat=z:=by intro z hz;rw[BitVec.ofInt_natCast,BitVec.toNat_ofNat,zQ hz]
 have CC:(x|||y)<2^32:=Nat.or_lt_two_pow hx hy;show IntKind.u32.wrap ((BitVec.ofInt 32 (x:Int)|||BitVec.ofInt 32 (y:Int)).toNat:Int)=_;rw[BitVec.toNat_or,e x hx,e y hy,s9]
 .simp[IntKind.min,IntKind.signed]
 .simp only[IntKind.max,IntKind.signed,IntKind.bits];have:((x|||y:Nat):Int)<2^32:=by exact_mod_cast CC
  simp only[lS,if_false];omega
theorem GY {n b:Int} (i:Nat) (h0:0<=n) (h1:n<2^i) (h2:0<=b) (h3:b*2^i<4294967296) (h4:(2:Int)^i<=4294967296):gr .or .u32 n (b*2^i)=n+b*2^i:=by
 obtain⟨x,rfl⟩:=B5 h0;obtain⟨c,rfl⟩:=B5 h2;have hx:x<2^i:=by
  have:((x:Nat):Int)<((2^i:Nat):Int):=by push_cast;exact h1
  exact_mod_cast this
 have e1:(c:Int)*2^i=((c*2^i:Nat):Int):=by push_cast;rfl
 have h5:c*2^i<2^32:=by
  rw[e1] at h3;have:(2:Nat)^32=4294967296:=by decide
  omega
 have h6:2^i<=2^32:=by
  have:((2^i:Nat):Int)<=4294967296:=by push_cast;exact h4
  have:(2:Nat)^32=4294967296:=by decide
  omega
 rw[e1,agb x _ (by omega) h5];have:=Ex hx c;rw[Nat.shiftLeft_eq] at this;rw[Nat.or_comm,<-this];push_cast;omega
theorem agc {a:Int} (h0: -2147483648<=a) (h1:a<2147483648):IntKind.i32.wrap (a%4294967296)=a:=by simp[IntKind.wrap,IntKind.bits,IntKind.signed,Int.bmod];omega
theorem agd (a:Int):a%4294967296%256+(a%4294967296/ 256%256)*256+(a%4294967296/ 65536%256)*65536+(a%4294967296/ 16777216%256)*16777216=a%4294967296:=by omega
theorem GZ {x y:Int} {K:Int->Prop} (h0:0<=y) (h1:y<=32) (h2:0<=x) (h3:x*2^y.toNat<4294967296) (hk:K (x*2^y.toNat)):shl .u32 x y K:=by
 refine⟨by omega,?_⟩;have e:min y.toNat IntKind.u32.bits=y.toNat:=Nat.min_eq_left (by show y.toNat<=32;omega);rw[e,s9]
 .exact hk
 .show(0:Int)<=_;exact Int.mul_nonneg h2 (Int.pow_nonneg (by decide))
 .show _<=(4294967295:Int);omega
section
variable {O w:ao} {F:HP}
theorem age {p:av} {c:Nat} {a:Int} (hr:Rd w 1 p 4 (bc (a4 a))) (hc:4<=c):ae 301 #[af p 4 c] w λv w'=>v=aH (a%4294967296)/\w'=w:=by
 apply ZG;have hb:∀{j:Nat} {x:Int} {K:Int->Prop},(a4 a)[j]?=some x->j<4->K x->ba p 4 (j:Int) 1 λa8=>ax .u8 a8 w K:=by intro j x K hx hj hk;refine fM hr (by omega) (by omega) λq hq=>az (n:=x) ?_ hk;rw[cu,jT];exact hr.get hq (Fp hx)
 refine oI (by decide) (by decide) (by omega) ?_;have e0:(if c=Int.toNat 0 then p else p.map (·.add (Int.toNat 0*1)))=p:=by
  rw[if_neg (by simp;omega)];cases p with
  |none=>rfl
  |some q=>simp[Sp.add_zero]
 rw[e0];show∃I2:Int->Int->ao->Nat->Prop,_;have r0:0<=a%4294967296%256/\a%4294967296%256<=255:=by omega
 have r1:0<=a%4294967296/ 256%256/\a%4294967296/ 256%256<=255:=by omega
 have r2:0<=a%4294967296/ 65536%256/\a%4294967296/ 65536%256<=255:=by omega
 have r3:0<=a%4294967296/ 16777216%256/\a%4294967296/ 16777216%256<=255:=by omega
 have hn:=agd a;have g0:(a4 a)[0]?=some (a%4294967296%256):=rfl;have g1:(a4 a)[1]?=some (a%4294967296/ 256%256):=rfl;have g2:(a4 a)[2]?=some (a%4294967296/ 65536%256):=rfl;have g3:(a4 a)[3]?=some (a%4294967296/ 16777216%256):=rfl;generalize a%4294967296%256=b0 at*;generalize a%4294967296/ 256%256=b1 at*;generalize a%4294967296/ 65536%256=b2 at*;generalize a%4294967296/ 16777216%256=b3 at*;refine⟨λn i w' m=>w'=w/\((i=((0:Nat):Int)/\n=0/\m=4)\/(i=((1:Nat):Int)/\n=b0/\m=3)\/(i=((2:Nat):Int)/\n=b0+b1*256/\m=2)\/(i=((3:Nat):Int)/\n=b0+b1*256+b2*65536/\m=1)\/(i=((4:Nat):Int)/\n=a%4294967296/\m=0)),⟨4,rfl,.inl ⟨rfl,rfl,rfl⟩⟩,?_⟩;rintro u n i w' m ⟨rfl,⟨rfl,rfl,rfl⟩|⟨rfl,rfl,rfl⟩|⟨rfl,rfl,rfl⟩|⟨rfl,rfl,rfl⟩|⟨rfl,rfl,rfl⟩⟩
 .refine aW rfl<|hb g0 (by decide)<|gX (by omega) (by omega)<|aY (by decide) (by decide)<|GZ (by decide) (by decide) (by omega) (by simp;omega)<|aY (by decide) (by decide) ⟨3,by decide,rfl,.inr (.inl ⟨rfl,?_,rfl⟩)⟩;have:=GY (n:=0) (b:=b0) 0 (by decide) (by decide) (by omega) (by simp;omega) (by decide);simpa using this
 .refine aW rfl<|hb g1 (by decide)<|gX (by omega) (by omega)<|aY (by decide) (by decide)<|GZ (by decide) (by decide) (by omega) (by simp;omega)<|aY (by decide) (by decide) ⟨2,by decide,rfl,.inr (.inr (.inl ⟨rfl,?_,rfl⟩))⟩;have:=GY (n:=n) (b:=b1) 8 (by omega) (by simp;omega) (by omega) (by simp;omega) (by decide);simpa using this
 .refine aW rfl<|hb g2 (by decide)<|gX (by omega) (by omega)<|aY (by decide) (by decide)<|GZ (by decide) (by decide) (by omega) (by simp;omega)<|aY (by decide) (by decide) ⟨1,by decide,rfl,.inr (.inr (.inr (.inl ⟨rfl,?_,rfl⟩)))⟩;have:=GY (n:=b0+b1*256) (b:=b2) 16 (by omega) (by simp;omega) (by omega) (by simp;omega) (by decide);simpa using this
 .refine aW rfl<|hb g3 (by decide)<|gX (by omega) (by omega)<|aY (by decide) (by decide)<|GZ (by decide) (by decide) (by omega) (by simp;omega)<|aY (by decide) (by decide) ⟨0,by decide,rfl,.inr (.inr (.inr (.inr ⟨rfl,?_,rfl⟩)))⟩;have:=GY (n:=b0+b1*256+b2*65536) (b:=b3) 24 (by omega) (by simp;omega) (by omega) (by simp;omega) (by decide);simp at this ⊢;rw[this];exact hn
 .exact aw rfl ⟨rfl,rfl⟩
end
structure Src (B:HP) (p:av) (l c:Nat) (bs:aJ):Prop where
 CG:bd B 1 p l (bc bs)
 cap:l<=c
 len:bs.length=l
 fN:∀b∈bs,0<=b/\b<=255
def gN (k:Nat) (B:HP) (bs:aJ):HP:=ex λ(p:av)=>ex λ(l:Nat)=>ex λ(c:Nat)=>bM (Src B p l c bs)*ab k #[af p l c] 478
theorem agf:fe au 63 102 (an (bc dW++[aa 0]).toArray) 17 24:=⟨by kernel_rfl,by kernel_rfl,rfl,by decide⟩
theorem agh:fe au 64 100 aP 1 24:=⟨by kernel_rfl,by kernel_rfl,rfl,by decide⟩
def G0 (x:ig):Prop:=(0<=x.op/\x.op<=255)/\(0<=x.b/\x.b<=255)/\ -2147483648<=x.a/\x.a<2147483648
theorem agi {slots:Int} {x:ig} {t l:Int} (hs:slots<=8) (h:zg slots x=some (t,l)):G0 x:=by
 unfold zg at h;unfold G0;split at h
 .split at h
  .omega
  .cases h
 split at h
 .split at h
  .omega
  .cases h
 split at h
 .split at h
  .omega
  .cases h
 split at h
 .split at h
  .omega
  split at h
  .omega
  split at h
  .omega
  split at h
  .omega
  .cases h
 .cases h
theorem Rz {slots:Int} (hs:slots<=8):∀(l:List ig) (h m:Int) (r:Int),rN slots l h m=some r->∀x∈l,G0 x
 |[],_,_,_,_=>by simp
 |x::l,h,m,r,hw=>by
  unfold rN at hw;split at hw
  .rename_i t la GH;have hx:=agi hs GH;split at hw
   .split at hw
    .split at hw
     .rename_i e;rw[e.2];simpa using hx
     .cases hw
    .have:=Rz hs l _ _ _ hw;simpa using⟨hx,this⟩
   .cases hw
  .cases hw
section
variable {O w:ao} {F:HP}
theorem gN.aK {k:Nat} {B G:HP} {bs:aJ} (h:V O (gN k B bs*G) w):∃p l c,Src B p l c bs/\V O (ab k #[af p l c] 478*G) w:=by obtain⟨p,h⟩:=h.ex;obtain⟨l,h⟩:=h.ex;obtain⟨c,h⟩:=h.ex;have h:=h.a;exact⟨p,l,c,h.bM,h.right⟩
theorem gN.aI {k:Nat} {B G:HP} {bs:aJ} {p:av} {l c:Nat} (hs:Src B p l c bs) (h:V O (ab k #[af p l c] 478*G) w):V O (gN k B bs*G) w:=by have h1:V O ((Sp.bM (Src B p l c bs)*ab k #[af p l c] 478)*G) w:=(V.eL hs h).g1;exact((h1.bO c).bO l).bO p
theorem G1 {k:Nat} {B G:HP} {new bs:aJ} {n:Int} (hn:(new.length:Int)=n) (amI:new.length<=1000000) (h:V O (gN k B (new++bs)*G) w): ae 300 #[al k,aa n] w λv w'=>∃p c,v=af p new.length c/\new.length<=c/\bd B 1 p new.length (bc new)/\V O (gN k B bs*G) w':=by
 subst hn;apply ZF;obtain⟨p,l,c,hs,h⟩:=gN.aK h;have hl:new.length+bs.length=l:=by have:=hs.len;simpa using this
 have mr:=hs.cap;refine aq<|aN (aB h (i:=0) rfl)<|aw (by simp;omega)<|aq<|aN (aB h (i:=0) rfl)<|oI (by decide) (by omega) (by omega)<|aq<|aN (aB h (i:=0) rfl)<|oI (by omega) (by omega) (by omega)<|aq<|bD (i:=0) h (by simp) λw1 h1=> ?_;have e1:Int.toNat (new.length:Int)- Int.toNat 0=new.length:=by simp
 have e2:Int.toNat (new.length:Int)=new.length:=by simp
 have e3:Int.toNat (l:Int)=l:=by simp
 have g1:=bd.Ft (lo:=0) (hi:=new.length) hs.CG (by omega) (by omega) mr;have g2:=bd.Ft (lo:=new.length) (hi:=l) hs.CG (by omega) (by omega) mr;rw[Nat.sub_zero,m9,sU (eJ _),j4] at g1;rw[Ey (eJ _),List.drop_length,m8,eW (by omega)] at g2;refine⟨_,_,by rw[e1],?_,?_,?_⟩
 .show new.length<=c- 0;omega
 .exact g1
 .rw[e2,e3] at h1;refine gN.aI (p:=if c=new.length then p else p.map (·.add (new.length*1))) (l:=l- new.length) (c:=c- new.length) ⟨g2,by omega,by omega,λb hb=>hs.fN b (List.mem_append_right _ hb)⟩ ?_;exact h1
theorem agj {k:Nat} {B G:HP} {bs:aJ} (h:V O (gN k B bs*G) w):∀b∈bs,0<=b/\b<=255:=by obtain⟨p,l,c,hs,h⟩:=gN.aK h;exact hs.fN
theorem zk {k:Nat} {B G:HP} {x:Int} {bs:aJ} (h:V O (gN k B (x::bs)*(G*B)) w): ae 228 #[al k] w λv w'=>v=aa x/\V O (gN k B bs*(G*B)) w':=by have hx:=agj h x (by simp);apply Zt;refine ay (G1 (new:=[x]) (bs:=bs) rfl (by simp) h) ?_;rintro _ w1 ⟨p,c,rfl,hc,hg,h1⟩;have hr:=hg _ _ h1.right.right;refine iE<|fM hr (by decide) (by simp) λa ha=>az (n:=x) ?_<|aY (by omega) (by omega) ⟨rfl,h1⟩;have:=hr.get ha (j:=0) (u:=.int .u8 x) rfl;simpa[Sp.add_zero] using this
def iH (id:aJ) (pf:av) (lf cf:Nat) (sl:Int) (pm:av) (lm cm:Nat):aM:=(bc id++[af pf lf cf,aa sl,af pm lm cm]).toArray
theorem DM {id:aJ} (gk:id.length=16) (pf:av) (lf cf:Nat) (sl:Int) (pm:av) (lm cm:Nat):(iH id pf lf cf sl pm lm cm)[16]?=some (af pf lf cf)/\(iH id pf lf cf sl pm lm cm)[18]?=some (af pm lm cm)/\(iH id pf lf cf sl pm lm cm).size=19:=by
 have hl:(bc id).length=16:=by rw[dh];exact gk
 refine⟨?_,?_,?_⟩
 .simp[iH,ix,hl]
 .simp[iH,ix,hl]
 .simp[iH,hl]
theorem Li {id:aJ} (gk:id.length=16) (pf:av) (lf cf:Nat) (sl:Int) (pm:av) (lm cm:Nat) (RA:av) (RB RC:Nat) (RD:Int) (RE:av) (RF RG:Nat): (iH id pf lf cf sl pm lm cm).setIfInBounds 16 (af RA RB RC)=iH id RA RB RC sl pm lm cm/\(iH id pf lf cf sl pm lm cm).setIfInBounds 17 (aa RD)=iH id pf lf cf RD pm lm cm/\(iH id pf lf cf sl pm lm cm).setIfInBounds 18 (af RE RF RG)=iH id pf lf cf sl RE RF RG:=by
 have hl:(bc id).length=16:=by rw[dh];exact gk
 refine⟨?_,?_,?_⟩<;>apply cT<;>simp[iH,lp,hl]
theorem RH (id:aJ) (pf:av) (lf cf:Nat) (sl:Int) (pm:av) (lm cm:Nat):∀u∈(iH id pf lf cf sl pm lm cm).toList,u.oneCell'=true:=by
 intro u hu;simp only[iH,List.toList_toArray,fj] at hu;rcases hu with h|h
 .exact jt _ u h
 .simp at h;rcases h with rfl|rfl|rfl<;>rfl
theorem RI {p:av} {l c:Nat} {xs:dB} {K:Addr->Prop} (h:Rd w 1 p l xs) (hl:l=16) (hk:∀a,(∀j u,xs[j]?=some u->w.cell? (a.add j)=some u)->K a):zY au (Instr.arrayAt 30 (af p l c)) w K:=by obtain⟨a,rfl⟩:=h.2.1 (by omega);have ht:∃e,Tryz.prog.underlying 30=some (.array 16 e):=⟨5,by kernel_rfl⟩;obtain⟨e,ht⟩:=ht;exact⟨a,run_arrayAt w _ _ 16 (some a) l c ht (by omega),hk a λj u hu=>h.get rfl hu⟩
theorem agk {a:Addr} {vs:aM} {X:Prop} (h:∀j u,vs.toList[j]?=some u->w.cell? (a.add j)=some u) (hX:X):qb (cellsOf a vs) w X:=by
 have h1:∀q∈cellsOf a vs,w.cell? q.1=some q.2:=ES.2 λj hj=>by rw[h j vs[j] (by simp[hj])];simp[hj]
 revert h1;generalize cellsOf a vs=S;intro h1;induction S with
 |nil=>exact hX
 |cons q S ih=>exact⟨h1 q (.head _),ih λr hr=>h1 r (.tail _ hr)⟩
end
theorem xO {α:Type} {l:List α} {j:Nat} {x:α} (h:l[j]?=some x):l.take (j+1)=l.take j++[x]:=by obtain⟨aQ,rfl⟩:=ct.1 h;rw[List.take_append_getElem]
theorem G2 {α:Type} {f:α->aJ} {t:aJ} {l:List α} {j:Nat} {x:α} (hx:l[j]?=some x):(l.drop j).flatMap f++t=f x++((l.drop (j+1)).flatMap f++t):=by obtain⟨aQ,rfl⟩:=ct.1 hx;rw[ll aQ,jE,iy]
theorem Lj {α:Type} {f:α->aJ} {t:aJ} {l:List α} {j:Nat} (hj:l.length<=j):(l.drop j).flatMap f++t=t:=by rw[mJ hj];rfl
theorem agl {b:Bool} {X Y Y':Prop} (h:br b X Y) (hy:Y->Y'):br b X Y':=by
 cases b with
 |true=>exact h
 |false=>exact hy h
theorem RJ {k:IntKind} {e v:Int} {K:Int->Prop} (h:k.wrap e=v) (hk:K v):arith k e K:=by unfold arith;rw[h];exact hk
section
variable {O w:ao} {F:HP}
theorem agm {p:av} {l c:Nat} {xs:dB} {K:Addr->Prop} (h:Rd w 1 p l xs) (hl:l=16) (hk:∀a,(∀q,p=some q->q=a)->(∀j u,xs[j]?=some u->w.cell? (a.add j)=some u)->K a):zY au (Instr.arrayAt 30 (af p l c)) w K:=by obtain⟨a,rfl⟩:=h.2.1 (by omega);have ht:∃e,Tryz.prog.underlying 30=some (.array 16 e):=⟨5,by kernel_rfl⟩;obtain⟨e,ht⟩:=ht;exact⟨a,run_arrayAt w _ _ 16 (some a) l c ht (by omega),hk a (λq hq=>by cases hq;rfl) λj u hu=>h.get rfl hu⟩
theorem agn {k:Nat} {B G:HP} {l:List ig} {bs:aJ} {K:av->Nat->ao->Prop} (hl:l.length<=32) (vI:∀x∈l,G0 x) (h:V O (gN k B (l.flatMap jN++bs)*(G*B)) w) (hk:∀p c w',V O (gN k B bs*((aE 99 3 j3 p l.length c l*G)*B)) w'->K p c w'): ∃Lk:av->Nat->Nat->Int->ao->Nat->Prop,(∃m47,Lk none 0 0 0 w m47)/\ ∀(u48:bo) (zl:av) (Ll zm:Nat) (Lm:Int) (tr:ao) (RK:Nat),Lk zl Ll zm Lm tr RK-> br (decide ((Lm:Int)<(l.length:Int))) ( ae 300 #[al k,aa 6] tr λv52 AI=> gI v52 λLn Lo c53=> ba Ln Lo 0 1 λRL=> ax .u8 RL AI.drew λRM=> arith .i64 RM λRN=> fD Ln c53 1 2 ((Lo:Int)) λp57 l57 c57=> ba Ln Lo 1 1 λRO=> ax .u8 RO AI.drew λRQ=> arith .i64 RQ λRR=> ae 301 #[af p57 l57 c57] AI.drew λv61 AJ=> bp .u32 v61 λn62=> AJ.cell? RO=some (.int .u8 RQ)/\ AJ.cell? RL=some (.int .u8 RM)/\ arith .i32 n62 λn63=> arith .i64 n63 λRS=> (#[aa RN,aa RS,aa RR]:aM).size=3/\ new #[aa RN,aa RS,aa RR] 99 AJ λLp FR=> bR au (Builtin.append_ #[100,100] 100 #[af zl Ll zm,af (aU Lp) 1 1]) FR λp66 l66 c66 Jr=> arith .i64 (Lm+1) λn67=> ∃RT,RT<RK/\Lk p66 l66 c66 n67 Jr RT) (Ll=l.length/\K zl zm tr):=by
 refine⟨λp' l' c' n w' m=>∃r:Nat,n=r/\l'=r/\r<=l.length/\m=l.length- r/\V O (gN k B ((l.drop r).flatMap jN++bs)*((aE 99 3 j3 p' r c' (l.take r)*G)*B)) w',⟨_,0,rfl,rfl,by omega,rfl,?_⟩,?_⟩
 .have h1:=fE 99 3 j3 h;exact h1.aF (by show _*(_*_)=_;ac_rfl)
 clear h;rintro u p1 r c1 _ w1 m ⟨_,rfl,rfl,hr,rfl,h1⟩;refine bU (λaQ=> ?_) (λbW=> ?_);rotate_left
 .have e:r=l.length:=by omega
  subst e;rw[Lj (eJ _),j4] at h1;exact⟨rfl,hk _ _ _ h1⟩
 have hx:l[r]?=some (l[r]'(by omega)):=by simp[show r<l.length by omega]
 have lK:l[r]'(by omega)∈l:=sd _;generalize l[r]'(by omega)=x at hx lK;obtain⟨f1,f2,f3⟩:=vI x lK;rw[G2 hx] at h1;refine ay (G1 (new:=jN x) rfl (by simp[jN]) h1) ?_;rintro _ w2 ⟨p,c,rfl,hc,hg,h2⟩;have h2:=h2.drew;have fQ:=hg _ _ h2.right.right;have G3:6<=c:=hc;have get:∀{a:Addr} {w':ao} {j:Nat} {y:Int},Rd w' 1 p (jN x).length (bc (jN x))->p=some a->(jN x)[j]?=some y->w'.cell? (a.add (j*1))=some (.int .u8 y):=λhr hp hy=>by rw[jT];exact hr.get hp (Fp hy)
 have g0:(jN x)[0]?=some (x.op%256):=rfl;have g1:(jN x)[1]?=some (x.b%256):=rfl;have RU:=fQ.sub (lo:=2) (hi:=(jN x).length) (by simp[jN]) (eJ _) hc;have e4:((bc (jN x)).drop (2*1)).take (((jN x).length- 2)*1)=bc (a4 x.a):=rfl;rw[e4] at RU;refine iE<|fM fQ (by decide) (by simp[jN]) λa ha=>az (n:=x.op%256) (get fQ ha g0)<|aY (by omega) (by omega)<|oI (by decide) (by simp[jN]) (by simp[jN];omega)<|fM fQ (by decide) (by simp[jN]) λa' RV=>az (n:=x.b%256) (get fQ RV g1)<|aY (by omega) (by omega)<|ay (age (a:=x.a) RU (by show 4<=c- 2;omega)) ?_;rintro _ w3 ⟨rfl,rfl⟩;refine bI ⟨get fQ RV g1,get fQ ha g0,?_⟩;have eo:x.op%256=x.op:=by omega
 have eb:x.b%256=x.b:=by omega
 rw[eo,eb];refine RJ (agc f3.1 f3.2)<|aY (by omega) (by omega) ⟨rfl,aG h2 λLp w4 h4=> ?_⟩;have h4:V O (ab Lp (pJ x) 99*(aE 99 3 j3 p1 r c1 (l.take r)*(gN k B ((l.drop (r+1)).flatMap jN++bs)*(G*B)))) w4:=h4.aF (by show _*(_*_)=_;ac_rfl);refine xc (zs:=[x]) (m:=1) Q9 GF Q6 h4.right ?_ (by simp only[maxLen];omega) (by omega) λp2 c2 w5 h5=> ?_
 .have:=h4.left.uk (sz:=3) (l:=1) rfl;simpa[pJ,j3] using this
 refine aY (by omega) (by omega) ⟨l.length- (r+1),by omega,r+1,by omega,rfl,by omega,rfl,?_⟩;rw[xO hx];exact h5.aF (by ac_rfl)
theorem agB {k:Nat} {B G:HP} {c:jz} {bs:aJ} (hc:By c=true) (h:V O (gN k B (kv c++bs)*(G*B)) w): ae 229 #[al k] w λv w'=>∃(y:cL) (H:HP),y.x=c/\oe H y/\v=an (dN y).toArray/\V O (gN k B bs*((H*G)*B)) w':=by
 obtain⟨c1,c2,c3,c4⟩:=K0 hc;obtain⟨⟨_,nf⟩,c1⟩:=GN c1;have gk:=jy.len c.ok;apply Zu;have agC:kv c++bs=c.id++((c.cz.length:Int)%256::(c.cz.flatMap ku++(c.slots%256::(c.ey.length:Int)%256::(c.ey.flatMap ny++bs)))):=by simp[kv,v8]
 have ef:(c.cz.length:Int)%256=c.cz.length:=by omega
 have es:c.slots%256=c.slots:=by omega
 have em:(c.ey.length:Int)%256=c.ey.length:=by omega
 rw[agC,ef,es,em] at h;refine aG h λk1 w1 h1=>ay (G1 (n:=16) (G:=ab k1 _ 66*(G*B)) (by rw[gk];rfl) (by omega) h1.p1) ?_;rintro _ w2 ⟨p,d,rfl,hd,hg,h2⟩;refine iE<|RI (hg _ _ h2.right.right.right) gk λa ha=>nu (by rw[dh,gk]) ha ⟨by simp[dh,gk],aG h2 λk6 w3 h3=> ?_⟩;have ez:((((#[]++(bc c.id).toArray)++#[aP])++#[aa 0])++#[aP])=iH c.id none 0 0 0 none 0 0:=by apply cT;simp[iH]
 obtain⟨z1,z2,z3⟩:=DM gk none 0 0 0 none 0 0;rw[ez];refine bL h3 rfl z3 (RH _ _ _ _ _ _ _ _) λw4 h4=> ?_;obtain⟨Z,hZ⟩:∃Z:aM,(mM:aM)=Z:=⟨_,rfl⟩;have DN:Z.size=19:=by rw[<-hZ];rfl
 rw[hZ] at h4;clear hZ h1 h2 h3 h;have h5:V O (gN k B ((c.cz.length:Int)::(c.cz.flatMap ku++(c.slots::(c.ey.length:Int)::(c.ey.flatMap ny++bs))))*((ab k6 (iH c.id none 0 0 0 none 0 0) 66*(ab k1 Z 66*G))*B)) w4:=h4.aF (by ac_rfl);refine ay (zk h5) ?_;rintro _ w5 ⟨rfl,h6⟩;clear h4 h5;obtain⟨T1,fU⟩:∃T1,c.slots::(c.ey.length:Int)::(c.ey.flatMap ny++bs)=T1:=⟨_,rfl⟩;rw[fU] at h6;refine bI ⟨λn w' m=>∃(j:Nat) (pf:av) (cf:Nat),n=j/\j<=c.cz.length/\m=c.cz.length- j/\V O (gN k B ((c.cz.drop j).flatMap ku++T1)*((ab k6 (iH c.id pf j cf 0 none 0 0) 66*(aE 102 17 ic pf j cf (c.cz.take j)*(ab k1 Z 66*G)))*B)) w',⟨_,0,none,0,rfl,by omega,rfl,?_⟩,?_⟩
 .exact(fE 102 17 ic h6).aF (by show _*(_*_)=_;ac_rfl)
 clear h6;rintro u _ w6 m ⟨j,pf,cf,rfl,hj,rfl,h7⟩;refine bU (λaQ=> ?_) (λbW=> ?_)
 .have hx:c.cz[j]?=some (c.cz[j]'(by omega)):=by simp[show j<c.cz.length by omega]
  generalize c.cz[j]'(by omega)=f at hx;have hfb:0<=f.base+1/\f.base+1<=16:=by
   obtain⟨q0,q1,_⟩:=c1 j f hx;rcases wH j with z|z
   .have:=q0 z;omega
   .have:=q1 z;omega
  have v9:=jy.len f.ok;rw[G2 hx,show ku f=f.id++[(f.base+1)%256] from rfl,show(f.base+1)%256=f.base+1 by omega,iy] at h7;have h7:=h7.drew;obtain⟨y1,y2,y3⟩:=DM gk pf j cf 0 none 0 0;have cell:∀{w':ao} {A C:HP},V O (A*((ab k6 (iH c.id pf j cf 0 none 0 0) 66*C)*B)) w'->w'.cell? ((aD k6).add 16)=some (af pf j cf):=λhs=>aB (hs.right.a) y1;refine aN (cell h7)<|ay (G1 (n:=16) (by rw[v9];rfl) (by omega) h7) ?_;rintro _ w7 ⟨p,d,rfl,hd,hg,h8⟩;have Fc:((#[]++(bc f.id).toArray)++#[aa (f.base+1- 1)])=(ic f).toArray:=by
   have:f.base+1- 1=f.base:=by omega
   rw[this];apply cT;simp[ic]
  have fin:∀{w8:ao} {K:ao->Prop},V O (gN k B ((c.cz.drop (j+1)).flatMap ku++T1)*((ab k6 (iH c.id pf j cf 0 none 0 0) 66*(aE 102 17 ic pf j cf (c.cz.take j)*(ab k1 Z 66*G)))*B)) w8->(∀p' c' dP,V O (gN k B ((c.cz.drop (j+1)).flatMap ku++T1)*((ab k6 (iH c.id p' (j+1) c' 0 none 0 0) 66*(aE 102 17 ic p' (j+1) c' (c.cz.take (j+1))*(ab k1 Z 66*G)))*B)) dP->K dP)->new (ic f).toArray 102 w8 λxP w9=>bR au (Builtin.append_ #[63,63] 63 #[af pf j cf,af (aU xP) 1 1]) w9 λLq Lr Ls dn=>st ((aD k6).add 16) (af Lq Lr Ls) dn K:=by
   intro w8 K h9 hk;refine aG h9 λxP w9 aV=> ?_;have aV:V O (ab xP (ic f).toArray 102*(aE 102 17 ic pf j cf (c.cz.take j)*(ab k6 (iH c.id pf j cf 0 none 0 0) 66*(gN k B ((c.cz.drop (j+1)).flatMap ku++T1)*(ab k1 Z 66*(G*B)))))) w9:=aV.aF (by ac_rfl);refine xc (zs:=[f]) (m:=1) agf nw DD aV.right ?_ (by simp only[maxLen];omega) (by omega) λp' c' dn bu=>bD (i:=16) bu.p1 (by rw[y3];decide) λdP bA=>hk p' c' dP ?_
   .have:=aV.left.uk (sz:=17) (l:=1) (by simp[nw]);simpa using this
   .rw[(Li gk pf j cf 0 none 0 0 p' (j+1) c' 0 none 0 0).1] at bA;rw[xO hx];exact bA.aF (by ac_rfl)
  refine iE ⟨cell h8,agm (hg _ _ h8.right.right) v9 λa hae ha=>⟨cell h8,nu (by rw[dh,v9]) ha<|ay (zk h8) ?_⟩,ay (zk h8) ?_⟩
  .rintro _ w8 ⟨rfl,h9⟩;have Bz:=hg _ _ h9.right.right;refine bI<|agk (λjj u hu=> ?_) ⟨cell h9,aY (by omega) (by omega) ⟨by simp[dh,v9],?_,?_⟩⟩
   .obtain⟨q,rfl⟩:=Bz.2.1 (by omega);have e1:q=a:=hae _ rfl;subst e1;exact Bz.get rfl (by simpa using hu)
   .simp[dh,v9]
   .rw[Fc];exact fin h9 λp' c' dP bA=>aY (by omega) (by omega) ⟨_,by omega,j+1,p',c',by omega,by omega,rfl,bA⟩
  .rintro _ w8 ⟨rfl,h9⟩;have Bz:=hg _ _ h9.right.right;refine bI ⟨cell h9,aY (by omega) (by omega)<|RI Bz v9 λa ha=>⟨cell h9,nu (by rw[dh,v9]) ha ⟨by simp[dh,v9],?_,?_⟩⟩⟩
   .simp[dh,v9]
   .rw[Fc];exact fin h9 λp' c' dP bA=>aY (by omega) (by omega) ⟨_,by omega,j+1,p',c',by omega,by omega,rfl,bA⟩
 have e:j=c.cz.length:=by omega
 subst e;rw[Lj (eJ _),j4,<-fU] at h7;refine ay (zk h7) ?_;rintro _ w7 ⟨rfl,h8⟩;have h9:V O (ab k6 (iH c.id pf c.cz.length cf 0 none 0 0) 66*(gN k B ((c.ey.length:Int)::(c.ey.flatMap ny++bs))*((aE 102 17 ic pf c.cz.length cf c.cz*(ab k1 Z 66*G))*B))) w7:=h8.aF (by ac_rfl);refine bI<|bD (i:=17) h9 (by rw[(DM gk pf c.cz.length cf 0 none 0 0).2.2];decide) λw8 aV=> ?_;rw[(Li gk pf c.cz.length cf 0 none 0 0 none 0 0 c.slots none 0 0).2.1] at aV;have bu:V O (gN k B ((c.ey.length:Int)::(c.ey.flatMap ny++bs))*((ab k6 (iH c.id pf c.cz.length cf c.slots none 0 0) 66*(aE 102 17 ic pf c.cz.length cf c.cz*(ab k1 Z 66*G)))*B)) w8:=aV.aF (by ac_rfl);refine ay (zk bu) ?_;rintro _ w9 ⟨rfl,bA⟩;clear h7 h8 h9 aV bu;refine bI ⟨λn w' m=>∃(j:Nat) (pm:av) (cm:Nat) (ms:List zi) (H:HP),n=j/\j<=c.ey.length/\m=c.ey.length- j/\ms.map (·.l)=c.ey.take j/\(∀m∈ms,bd H 3 m.p m.l.length (m.l.flatMap j3))/\V O (gN k B ((c.ey.drop j).flatMap ny++bs)*((ab k6 (iH c.id pf c.cz.length cf c.slots pm j cm) 66*(aE 102 17 ic pf c.cz.length cf c.cz*(aE 100 1 oU pm j cm ms*(H*(ab k1 Z 66*G)))))*B)) w',⟨_,0,none,0,[],Sp.cW,rfl,by omega,rfl,rfl,by simp,?_⟩,?_⟩
 .exact(fE 100 1 oU bA.cQ).aF (by show _*(_*(_*_))=_;ac_rfl)
 clear bA;rintro u _ dn m ⟨i,pm,cm,ms,H,rfl,hi,rfl,G4,hH,bN⟩;have CV:ms.length=i:=by have:=congrArg List.length G4;simp at this;omega
 refine bU (λaQ=> ?_) (λbW=> ?_)
 .have hx:c.ey[i]?=some (c.ey[i]'(by omega)):=by simp[show i<c.ey.length by omega]
  have lK:c.ey[i]'(by omega)∈c.ey:=sd _;generalize c.ey[i]'(by omega)=L at hx lK;obtain⟨⟨l1,l2⟩,mx,hw⟩:=c4 L lK;have vI:=Rz c2.2 L _ _ _ hw;rw[G2 hx,show ny L=(L.length:Int)%256::L.flatMap jN from rfl,show(L.length:Int)%256=L.length by omega,pX] at bN;refine ay (zk bN) ?_;rintro _ dP ⟨rfl,bY⟩;obtain⟨I,hI0,hIs⟩:=agn (K:=λp c' w'=>V O (gN k B ((c.ey.drop (i+1)).flatMap ny++bs)*((aE 99 3 j3 p L.length c' L*(ab k6 (iH c.id pf c.cz.length cf c.slots pm i cm) 66*(aE 102 17 ic pf c.cz.length cf c.cz*(aE 100 1 oU pm i cm ms*(H*(ab k1 Z 66*G))))))*B)) w') l2 vI bY (λ_ _ _ h=>h);refine bI ⟨I,hI0,λu p l' c' n w' m hI=>agl (hIs u p l' c' n w' m hI) ?_⟩;rintro⟨rfl,cE⟩;obtain⟨y1,y2,y3⟩:=DM gk pf c.cz.length cf c.slots pm i cm;have df:V O (ab k6 (iH c.id pf c.cz.length cf c.slots pm i cm) 66*(gN k B ((c.ey.drop (i+1)).flatMap ny++bs)*((aE 99 3 j3 p L.length c' L*(aE 102 17 ic pf c.cz.length cf c.cz*(aE 100 1 oU pm i cm ms*(H*(ab k1 Z 66*G)))))*B))) w':=cE.aF (by ac_rfl);refine aN (aB df (i:=18) y2)<|aG df λLu fZ dZ=> ?_;have dZ:V O (ab Lu #[af p L.length c'] 100*(aE 100 1 oU pm i cm ms*(ab k6 (iH c.id pf c.cz.length cf c.slots pm i cm) 66*(gN k B ((c.ey.drop (i+1)).flatMap ny++bs)*((aE 99 3 j3 p L.length c' L*(aE 102 17 ic pf c.cz.length cf c.cz*(H*(ab k1 Z 66*G))))*B))))) fZ:=dZ.aF (by ac_rfl);refine xc (zs:=[⟨L,p,c'⟩]) (m:=1) agh GK afu dZ.right ?_ (by simp only[maxLen];omega) (by omega) λp' RW dH fO=>bD (i:=18) fO.p1 (by rw[y3];decide) λkQ fq=>aY (by omega) (by omega) ⟨_,?_,i+1,p',RW,ms++[⟨L,p,c'⟩],aE 99 3 j3 p L.length c' L*H,by omega,by omega,rfl,?_,?_,?_⟩
  .have:=dZ.left.uk (sz:=1) (l:=1) rfl;simpa[oU] using this
  .omega
  .rw[nF,G4,xO hx];rfl
  .intro m hm;rcases fj.1 hm with q|q
   .exact(hH m q).right
   .simp at q;subst q;exact bd.left bd.own
  .rw[(Li gk pf c.cz.length cf c.slots pm i cm none 0 0 0 p' (i+1) RW).2.2] at fq;exact fq.aF (by ac_rfl)
 .have e:i=c.ey.length:=by omega
  subst e;rw[Lj (eJ _)] at bN;rw[j4] at G4;obtain⟨y1,y2,y3⟩:=DM gk pf c.cz.length cf c.slots pm c.ey.length cm;have bY:V O (ab k6 (iH c.id pf c.cz.length cf c.slots pm c.ey.length cm) 66*(ab k1 Z 66*(gN k B bs*(((aE 102 17 ic pf c.cz.length cf c.cz*(aE 100 1 oU pm c.ey.length cm ms*H))*G)*B)))) dn:=bN.aF (by ac_rfl);refine bz bY y3<|bL bY.p1 DN y3 (RH _ _ _ _ _ _ _ _) λdP cE=>bz cE y3 ?_;refine⟨⟨c.id,c.cz,c.slots,ms,pf,cf,pm,cm,c.ok⟩,aE 102 17 ic pf c.cz.length cf c.cz*(aE 100 1 oU pm c.ey.length cm ms*H),?_,⟨bd.left bd.own,?_,λm hm=>((hH m hm).right).right⟩,?_,cE.right.right⟩
  .simp[cL.x,G4]
  .show bd _ 1 pm ms.length (ms.flatMap oU);rw[CV];exact bd.right (bd.left bd.own)
  .show an (iH c.id pf c.cz.length cf c.slots pm c.ey.length cm)=an (bc c.id++[af pf c.cz.length cf,aa c.slots,af pm ms.length cm]).toArray;rw[CV];rfl
end
theorem agG:fe au 67 66 (an (bc dW++[aP,aa 0,aP]).toArray) 19 72:=⟨by kernel_rfl,by kernel_rfl,rfl,by decide⟩
section
variable {O w:ao} {F:HP}
theorem agH {m:List jz} {p:av} {n c:Nat} (hm:zj m=true) (hG:bd F 1 p n (bc (dE m))) (hr:∀b∈dE m,0<=b/\b<=255) (hn:(dE m).length=n) (hc:n<=c) (h:V O F w): ae 138 #[af p n c] w λv w'=>∃(ys:List cL) (q:av) (d:Nat) (H:HP),v=ak #[an #[af q ys.length d],aC true]/\ys.map cL.x=m/\kj H q ys/\V O (H*F) w':=by
 obtain⟨⟨_,n8⟩,agI,_⟩:=DF hm;apply aga;unfold La;refine aG h λk1 w1 h1=>aG h1 λk2 w2 h2=>aG h2 λk3 w3 h3=> ?_;have h4:=gN.aI (bs:=dE m) (B:=F) ⟨hG,hc,hn,hr⟩ h3;have ef:(m.length:Int)%256=m.length:=by omega
 have e1:dE m=(m.length:Int)::(m.flatMap kv++[]):=by rw[dE,ef,jS]
 rw[e1] at h4;have h5:V O (gN k3 F ((m.length:Int)::(m.flatMap kv++[]))*((ab k1 #[aP] 69*ab k2 #[aC false] 4)*F)) w3:=h4.aF (by ac_rfl);refine ay (zk h5) ?_;rintro _ w4 ⟨rfl,h6⟩;refine bI ⟨λi w' mm=>∃(j:Nat) (pc:av) (cc:Nat) (ys:List cL) (H:HP),i=j/\j<=m.length/\mm=m.length- j/\ys.map cL.x=m.take j/\(∀y∈ys,oe H y)/\V O (gN k3 F ((m.drop j).flatMap kv++[])*((ab k1 #[af pc j cc] 69*(aE 66 19 dN pc j cc ys*(H*ab k2 #[aC false] 4)))*F)) w',⟨_,0,none,0,[],Sp.cW,rfl,by omega,rfl,rfl,by simp,?_⟩,?_⟩
 .exact(fE 66 19 dN h6.cQ).aF (by show _*(_*(_*_))=_;ac_rfl)
 clear h1 h2 h3 h4 h5 h6;rintro u _ w5 mm ⟨j,pc,cc,ys,H,rfl,hj,rfl,nz,hH,h7⟩;have G5:ys.length=j:=by have:=congrArg List.length nz;simp at this;omega
 refine bU (λaQ=> ?_) (λbW=> ?_)
 .have hx:m[j]?=some (m[j]'(by omega)):=by simp[show j<m.length by omega]
  have lK:m[j]'(by omega)∈m:=sd _;generalize m[j]'(by omega)=C at hx lK;rw[G2 hx] at h7;have h7:=h7.drew;have h8:V O (ab k1 #[af pc j cc] 69*(gN k3 F (kv C++((m.drop (j+1)).flatMap kv++[]))*((aE 66 19 dN pc j cc ys*(H*ab k2 #[aC false] 4))*F))) w5.drew:=h7.aF (by ac_rfl);refine aN (aB h8 (i:=0) rfl)<|ay (agB (agI C lK) h7) ?_;rintro _ w6 ⟨y,H1,rfl,hy,rfl,h9⟩;have aV:V O (ab k1 #[af pc j cc] 69*(aE 66 19 dN pc j cc ys*(gN k3 F ((m.drop (j+1)).flatMap kv++[])*((H1*H)*(ab k2 #[aC false] 4*F))))) w6:=h9.aF (by ac_rfl);refine nI ⟨aB aV (i:=0) rfl,by simp[fT],aG aV λrO w7 bu=>xc (zs:=[y]) (m:=1) agG fT sL bu.right.p1 ?_ (by simp only[maxLen];omega) (by omega) λp' c' w8 bA=>bD (i:=0) bA.p1 (by simp) λw9 bN=>aY (by omega) (by omega) ⟨_,?_,j+1,p',c',ys++[y],H1*H,by omega,by omega,rfl,?_,?_,?_⟩⟩
  .have:=bu.left.uk (sz:=19) (l:=1) (by simp[fT]);simpa using this
  .omega
  .rw[nF,nz,xO hx];rfl
  .intro z hz;rcases fj.1 hz with q|q
   .exact(hH z q).right
   .simp at q;subst q;exact hy.left
  .exact bN.aF (by simp only[Array.setIfInBounds];ac_rfl)
 .have e:j=m.length:=by omega
  subst e;rw[j4] at nz;have h8:V O (ab k1 #[af pc m.length cc] 69*(ab k2 #[aC false] 4*(gN k3 F ((m.drop m.length).flatMap kv++[])*((aE 66 19 dN pc m.length cc ys*H)*F)))) w5:=h7.aF (by ac_rfl);refine bz h8 rfl<|bL h8 rfl rfl (by simp[Value.oneCell']) λdn h9=> ?_;have aV:=h9.p1;refine pK aV (by simp) λdP bu=>bz bu.p1 rfl<|gQ (n:=true) (fS bu rfl) ⟨ys,pc,cc,aE 66 19 dN pc m.length cc ys*H,by rw[G5],nz,⟨?_,λy hy=>(hH y hy).right⟩,?_⟩
  .rw[G5];exact bd.left bd.own
  .exact bu.right.right.right
theorem Lv {m:List jz} {p:av} {n c:Nat} (hm:zj m=true) (hl:(dE m).length<=100000) (hG:bd F 1 p n (bc (dE m))) (hr:∀b∈dE m,0<=b/\b<=255) (hn:(dE m).length=n) (hc:n<=c) (h:V O F w): ae 72 #[af p n c] w λv w'=>∃(ys:List cL) (q:av) (d:Nat) (H:HP),v=ak #[an #[af q ys.length d],aa 0]/\ys.map cL.x=m/\kj H q ys/\V O (H*F) w':=by apply Zb;refine aG h λk1 w1 h1=>ay (agH hm hG.right hr hn hc h1) ?_;rintro _ w2 ⟨ys,q,d,H,rfl,nz,hH,h2⟩;refine⟨_,_,rfl,aG h2 λk5 w3 h3=>bL h3 rfl rfl (by simp[Value.oneCell']) λw4 h4=>bz h4 rfl ?_⟩;subst nz;refine ay (Rn hH.left.right hm hl h4) ?_;rintro _ w5 ⟨q2,n2,d2,rfl,h5⟩;refine⟨_,_,_,_,rfl,aw rfl<|aw rfl<|ay (OX h5.left.rd (hG.right.right.right.right _ _ h5) hr hr) ?_⟩;rintro _ w6 ⟨rfl,rfl⟩;refine cR<|aw (by simp) ?_;have h6:V O (ab k5 #[af q ys.length d] 69*(ab k1 #[aP] 69*(own 5 1 q2 n2 d2 (bc (dE (ys.map cL.x)))*(H*F)))) w6:=h5.p3.p2;exact bz h6 rfl<|bL h6.p1 rfl rfl (by simp[Value.oneCell']) λw7 h7=>bz h7 rfl ⟨ys,q,d,H,rfl,rfl,hH,h7.right.right.right⟩
end
def wa (l:aJ):dB:=l.map (.int .u32 ·)
theorem RX {a b:aJ} (d:Nat) (w:ao):∀(is:List Nat),(∀i∈is,i<a.length/\i<b.length)-> (Op.eqItems (d+1) 108 (Tryz.prog.cellsOf 108) (wa a).toArray (wa b).toArray is).run au w=.ok (decide (∀i∈is,a[i]?=b[i]?)) w
 |[],_=>by simp[Op.eqItems]
 |i::is,h=>by
  have ih:=RX (a:=a) (b:=b) d w is λj hj=>h j (.tail _ hj);obtain⟨h1,h2⟩:=h i (.head _);have jH:Tryz.prog.cellsOf 108=1:=by kernel_rfl
  have hu:=Tryz.underlying108;have p1:(part 108 (wa a).toArray (i*Tryz.prog.cellsOf 108)).run au w=.ok (aH a[i]) w:=qa hu (by unfold lv;rw[hu];simp) (by rw[jH];simp[wa,h1]) w;have p2:(part 108 (wa b).toArray (i*Tryz.prog.cellsOf 108)).run au w=.ok (aH b[i]) w:=qa hu (by unfold lv;rw[hu];simp) (by rw[jH];simp[wa,h2]) w;have p3:=run_equalIn_int w d 108 .u32 .u32 a[i] b[i] hu;simp only[Op.eqItems,Sem.run_bind,p1,p2,p3,Result.andThen_ok];by_cases e:a[i]=b[i]
  .simp[e,ih,h1,h2]
  .simp[e,h1,h2]
theorem agJ {a b c:Int} {K:Bool->Prop} (hk:K (decide (a=0)&&(decide (b=0)&&decide (c=0)))):still au (Op.equal 193 (an #[aH a,aH b,aH c]) (an #[aH 0,aH 0,aH 0])) K:=by
 refine⟨_,λw=> ?_,hk⟩;obtain⟨d,hd⟩:∃d,Op.maxDepth=d+1+1:=⟨9998,by kernel_rfl⟩;unfold Op.equal;rw[hd];have hf:Tryz.prog.info? 108=some (Tryz.prog.types[108]'(of_decide_eq_true (by kernel_rfl))):=by kernel_rfl
 have hu:Tryz.prog.underlying 193=some (.array 3 108):=by kernel_rfl
 rw[run_equalIn_array w (d+1) _ _ hu hf];have:=RX (a:=[a,b,c]) (b:=[0,0,0]) d w (List.range 3) (λi hi=>by rw[vr] at hi;simp;omega);refine Eq.trans this ?_;congr 1;rw[sX];simp[List.range,List.range.loop]
structure rP where
 ld:Bool
 c0:Int
 c2:Int
 cK:Int
def jA (pf:av) (lf cf:Nat) (q:av) (n d:Nat) (r:rP):aM:=#[af pf lf cf,af q n d,aC r.ld,aH r.c0,aH 0,aH r.c2,aa r.cK]
structure BA where
 p:av
 c:Nat
 km:Nat
 pf:av
 cf:Nat
 q:av
 d:Nat
 ys:List cL
 H:HP
def dp (P:BA) (k:Nat) (m:List jz) (dl:Int) (r:rP):HP:=
 ab P.km (jA P.pf (dE m).length P.cf P.q P.ys.length P.d r) 195*(ab k #[af P.p 1 P.c,aa dl] 205*(own 190 1 P.p 1 P.c [al P.km]*(own 5 1 P.pf (dE m).length P.cf (bc (dE m))*P.H)))
def dU (k:Nat) (m:List jz) (dl:Int) (r:rP):HP:=ex λ(P:BA)=>bM (P.ys.map cL.x=m/\kj P.H P.q P.ys)*dp P k m dl r
structure BB (m:List jz):Prop where
 ok:zj m=true
 len:(dE m).length<=100000
 fN:∀b∈dE m,0<=b/\b<=255
section
variable {O w:ao} {F:HP} {k:Nat} {m:List jz} {dl:Int} {r:rP} {P:BA}
theorem dU.aK (h:V O (dU k m dl r*F) w):∃P:BA,(P.ys.map cL.x=m/\kj P.H P.q P.ys)/\V O (dp P k m dl r*F) w:=by obtain⟨P,h⟩:=h.ex;have h:=h.a;exact⟨P,h.bM,h.right⟩
theorem dU.aI (hp:P.ys.map cL.x=m/\kj P.H P.q P.ys) (h:V O (dp P k m dl r*F) w):V O (dU k m dl r*F) w:=V.bO P ((V.eL hp h).g1)
theorem dp.at (h:V O (dp P k m dl r*F) w):V O (ab k #[af P.p 1 P.c,aa dl] 205*(ab P.km (jA P.pf (dE m).length P.cf P.q P.ys.length P.d r) 195*(own 190 1 P.p 1 P.c [al P.km]*(own 5 1 P.pf (dE m).length P.cf (bc (dE m))*(P.H*F))))) w:=h.aF (by unfold dp;ac_rfl)
theorem dp.mo (h:V O (dp P k m dl r*F) w):V O (ab P.km (jA P.pf (dE m).length P.cf P.q P.ys.length P.d r) 195*(ab k #[af P.p 1 P.c,aa dl] 205*(own 190 1 P.p 1 P.c [al P.km]*(own 5 1 P.pf (dE m).length P.cf (bc (dE m))*(P.H*F))))) w:=h.aF (by unfold dp;ac_rfl)
theorem dp.set {r':rP} (h:V O (ab P.km (jA P.pf (dE m).length P.cf P.q P.ys.length P.d r') 195*(ab k #[af P.p 1 P.c,aa dl] 205*(own 190 1 P.p 1 P.c [al P.km]*(own 5 1 P.pf (dE m).length P.cf (bc (dE m))*(P.H*F))))) w):V O (dp P k m dl r'*F) w:=h.aF (by unfold dp;ac_rfl)
theorem dp.BC {K:Addr->Prop} (h:V O (dp P k m dl r*F) w) (hk:∀a,w.cell? a=some (al P.km)->K a):ba P.p 1 0 1 K:=by have ho:=(dp.at h).right.right.left;refine fM ho.rd (by decide) (by decide) λa ha=>hk _ ?_;have:=ho.rd.get ha (j:=0) rfl;simpa[Sp.add_zero] using this
theorem Lw (h:V O (dp P k m dl r*F) w):ae 67 #[al k,aa 0] w λv w'=>v=al P.km/\V O (dp P k m dl r*F) w':=by apply N1;exact aw rfl<|aw rfl<|aq<|aN (aB (dp.at h) (i:=0) rfl)<|aw rfl<|aq<|aN (aB (dp.at h) (i:=0) rfl)<|dp.BC h λa ha=>bh ha ⟨rfl,h⟩
theorem RY (h:V O (dp P k m dl r*F) w):ae 79 #[al P.km] w λv w'=>v=aC (r.ld&&(decide (r.c0=0)&&decide (r.c2=0)))/\V O (dp P k m dl r*F) w':=by
 apply Zc;have h1:=dp.mo h;refine aq<|gQ (n:=r.ld) (aB h1 (i:=2) rfl)<|cy (λe=> ?_) (λe=> ?_)
 .refine aq<|ff h1 (by simp[jA]) ?_;have ee:(jA P.pf (dE m).length P.cf P.q P.ys.length P.d r).extract 3 (3+3)=#[aH r.c0,aH 0,aH r.c2]:=by simp[jA]
  rw[ee];refine agJ ⟨?_,h⟩;rw[e];simp
 .exact⟨by rw[e];rfl,h⟩
theorem agK (h:V O (dU k m dl r*F) w):ae 35 #[al k,aa 0] w λv w'=>v=aC r.ld/\V O (dU k m dl r*F) w':=by obtain⟨P,hp,h⟩:=dU.aK h;apply YZ;refine ay (Lw h) ?_;rintro _ w1 ⟨rfl,h1⟩;exact gK<|aW rfl<|aq<|gQ (n:=r.ld) (aB (dp.mo h1) (i:=2) rfl) ⟨rfl,dU.aI hp h1⟩
def xQ (r:rP) (nY:Int) (up:Bool):Option rP:=
 if nY=0 then(if up then(if 0<=r.c0/\r.c0<1000000 then some ⟨true,r.c0+1,r.c2,0⟩ else none) else(if 0<r.c0/\r.c0<=1000000 then some ⟨true,r.c0- 1,r.c2,0⟩ else none))
 else if nY=2 then(if up then(if 0<=r.c2/\r.c2<1000000 then some ⟨true,r.c0,r.c2+1,0⟩ else none) else(if 0<r.c2/\r.c2<=1000000 then some ⟨true,r.c0,r.c2- 1,0⟩ else none))
 else none
theorem agL {nY:Int} {up:Bool} {r':rP} (hc:xQ r nY up=some r') (h:V O (dU k m dl r*F) w): ae 56 #[al k,aa 0,aa nY,aC up] w λv w'=>v=aa 0/\V O (dU k m dl r'*F) w':=by
 obtain⟨P,hp,h⟩:=dU.aK h;apply Y8;refine ay (Lw h) ?_;rintro _ w1 ⟨rfl,h1⟩;have h2:=dp.mo h1;unfold xQ at hc;have main:∀{j:Nat} {n:Int},(jA P.pf (dE m).length P.cf P.q P.ys.length P.d r)[3+j]?=some (aH n)->nY=j->j<3->(if up then 0<=n/\n<1000000 else 0<n/\n<=1000000)->((((jA P.pf (dE m).length P.cf P.q P.ys.length P.d r).setIfInBounds (3+j) (aH (if up then n+1 else n- 1))).setIfInBounds 2 (aC true)).setIfInBounds 6 (aa 0)=jA P.pf (dE m).length P.cf P.q P.ys.length P.d r')->j5 ((aD P.km).add 3) 3 nY 1 λa4=>
   ∃J5:ao->Prop,(br up (ax .u32 a4 w1 λn6=>br ((n6:Int)==4294967295) ((λ(v:Value) (w':ao)=>v=aa 0/\V O (dU k m dl r'*F) w') (aa 4) w1) (br (!up) (ax .u32 a4 w1 λn7=>br ((n7:Int)==0) ((λ(v:Value) (w':ao)=>v=aa 0/\V O (dU k m dl r'*F) w') (aa 4) w1) (J5 w1)) (J5 w1))) (br (!up) (ax .u32 a4 w1 λn8=>br ((n8:Int)==0) ((λ(v:Value) (w':ao)=>v=aa 0/\V O (dU k m dl r'*F) w') (aa 4) w1) (J5 w1)) (J5 w1)))/\
   ∀(u9:bo) (w2:ao),J5 w2->
   br up (ax .u32 a4 w2 λfh=>arith .u32 (fh+1) λDO=>st a4 (aH DO) w2 λw3=>nn (aU P.km) λAg=>st (Ag.add 2) (aC true) w3 λw4=>nn (aU P.km) λyx=>st (yx.add 6) (aa 0) w4 λw5=>(λ(v:Value) (w':ao)=>v=aa 0/\V O (dU k m dl r'*F) w') (aa 0) w5) (ax .u32 a4 w2 λLx=>arith .u32 (Lx- 1) λLy=>st a4 (aH Ly) w2 λw6=>nn (aU P.km) λa16=>st (a16.add 2) (aC true) w6 λw7=>nn (aU P.km) λa17=>st (a17.add 6) (aa 0) w7 λw8=>(λ(v:Value) (w':ao)=>v=aa 0/\V O (dU k m dl r'*F) w') (aa 0) w8):=by
  intro j n hj hw aQ hn he;subst hw;refine lY (by omega) (by omega) ?_;have ea:(((aD P.km).add 3).add ((j:Int).toNat*1))=⟨P.km,3+j,none⟩:=by rw[du,du];simp
  rw[ea];have ng:=fS h2 hj;have hs:3+j<(jA P.pf (dE m).length P.cf P.q P.ys.length P.d r).size:=by simp[jA];omega
  have fin:∀{w3:ao} {x:Int},x=(if up then n+1 else n- 1)->V O (ab P.km ((jA P.pf (dE m).length P.cf P.q P.ys.length P.d r).setIfInBounds (3+j) (aH x)) 195*(ab k #[af P.p 1 P.c,aa dl] 205*(own 190 1 P.p 1 P.c [al P.km]*(own 5 1 P.pf (dE m).length P.cf (bc (dE m))*(P.H*F))))) w3->nn (aU P.km) λAg=>st (Ag.add 2) (aC true) w3 λw4=>nn (aU P.km) λyx=>st (yx.add 6) (aa 0) w4 λw5=>(λ(v:Value) (w':ao)=>v=aa 0/\V O (dU k m dl r'*F) w') (aa 0) w5:=by rintro w3 _ rfl h3;refine aq<|bD (i:=2) h3 (by simp[jA]) λw4 h4=>aq<|bD (i:=6) h4 (by simp[jA]) λw5 h5=>⟨rfl,?_⟩;rw[he] at h5;exact dU.aI hp (dp.set h5)
  refine⟨λw'=>w'=w1,?_,?_⟩
  .cases up with
   |true=>simp only[if_true] at hn;exact aW rfl<|az ng<|aw (by simp;omega)<|aw rfl rfl
   |false=>simp only[lS,if_false] at hn;exact aw rfl<|aW rfl<|az ng<|aw (by simp;omega) rfl
  .rintro u w2 rfl;cases up with
   |true=>simp only[if_true] at hn;exact aW rfl<|az ng<|gX (by omega) (by omega)<|pK h2 hs λw3 h3=>fin (x:=n+1) rfl h3
   |false=>simp only[lS,if_false] at hn;exact aw rfl<|az ng<|gX (by omega) (by omega)<|pK h2 hs λw3 h3=>fin (x:=n- 1) rfl h3
 split at hc
 .rename_i e;subst e;refine gK<|aw rfl<|aw rfl<|aw rfl<|aq<|main (j:=0) (n:=r.c0) rfl rfl (by decide) ?_ ?_
  .cases up<;>simp at hc ⊢<;>exact hc.1
  .cases up<;>simp at hc<;>obtain⟨_,rfl⟩:=hc<;>simp[jA]
 split at hc
 .rename_i e;subst e;refine gK<|aw rfl<|aw rfl<|aw rfl<|aq<|main (j:=2) (n:=r.c2) rfl rfl (by decide) ?_ ?_
  .cases up<;>simp at hc ⊢<;>exact hc.1
  .cases up<;>simp at hc<;>obtain⟨_,rfl⟩:=hc<;>simp[jA]
 .cases hc
end
theorem agO:fe au 203 190 (ag none) 1 8:=⟨by kernel_rfl,by kernel_rfl,rfl,by decide⟩
section
variable {O w:ao} {F:HP} {k:Nat} {m:List jz} {dl:Int} {r:rP} {P:BA}
theorem dp.CG {A:HP} (hp:P.ys.map cL.x=m/\kj P.H P.q P.ys):kj (A*(dp P k m dl r*F)) P.q P.ys:=by
 have:A*(dp P k m dl r*F)=P.H*(A*(ab P.km (jA P.pf (dE m).length P.cf P.q P.ys.length P.d r) 195*(ab k #[af P.p 1 P.c,aa dl] 205*(own 190 1 P.p 1 P.c [al P.km]*(own 5 1 P.pf (dE m).length P.cf (bc (dE m))*F))))):=by unfold dp;ac_rfl
 rw[this];exact hp.2.left
theorem dp.lC {A:HP}:bd (A*(dp P k m dl r*F)) 1 P.pf (dE m).length (bc (dE m)):=by
 have:A*(dp P k m dl r*F)=own 5 1 P.pf (dE m).length P.cf (bc (dE m))*(A*(ab P.km (jA P.pf (dE m).length P.cf P.q P.ys.length P.d r) 195*(ab k #[af P.p 1 P.c,aa dl] 205*(own 190 1 P.p 1 P.c [al P.km]*(P.H*F))))):=by unfold dp;ac_rfl
 rw[this];exact bd.left bd.own
theorem agP {id:aJ} {i:Nat} (hm:BB m) (gk:id.length=16) (hi:m.findIdx? (λg=>decide (g.id=id))=some i) (h:V O (dU k m dl r*F) w): ae 55 #[al k,an (bc id).toArray] w λv w'=>v=ak #[aa 0,aa i,aa 0]/\V O (dU k m dl r*F) w':=by
 obtain⟨P,hp,h⟩:=dU.aK h;have hn:=(DF hm.ok).1.2;rw[<-hp.1,fk] at hn;apply N0;refine aG h λk1 w1 h1=> ?_;have h2:=dp.at (h1.p1);refine aw rfl<|aq<|aN (aB h2 (i:=0) rfl) ?_;refine⟨λn w' mm=>n=0/\mm=0/\w'=w1,⟨0,rfl,rfl,rfl⟩,?_⟩;rintro u _ w2 _ ⟨rfl,rfl,rfl⟩;have h3:=dp.mo h1.p1.drew;refine aW rfl<|dp.BC h1.p1 λa ha=>bh ha<|aq<|ff h3 (by simp[jA]) ?_;have ee:(jA P.pf (dE m).length P.cf P.q P.ys.length P.d r).extract 1 (1+1)=#[af P.q P.ys.length P.d]:=by simp[jA]
 rw[ee];refine bz h1.drew (by simp[dh,gk])<|ay (Rh (i:=i) gk (dp.CG hp) hn (by rw[Ri,hp.1];exact hi) h1.drew) ?_;rintro _ w3 ⟨rfl,h4⟩;exact⟨_,_,rfl,aW rfl ⟨rfl,dU.aI hp h4.right⟩⟩
theorem agQ {id:aJ} (gk:id.length=16) (h:V O (ab k #[aP,aa dl] 205*F) w): ae 55 #[al k,an (bc id).toArray] w λv w'=>v=ak #[aa 0,aa 0,aa 8]/\V O (ab k #[aP,aa dl] 205*F) w':=by apply N0;refine aG h λk1 w1 h1=>aw rfl<|aq<|aN (aB h1.p1 (i:=0) rfl) ⟨λn w' mm=>n=0/\w'=w1,⟨0,rfl,rfl⟩,?_⟩;rintro u _ w2 _ ⟨rfl,rfl⟩;exact aw rfl ⟨rfl,h1.right⟩
theorem agR {c:jz} {j:Int} (hm:BB m) (h0:0<=j) (hj:m[j.toNat]?=some c) (h:V O (dU k m dl r*F) w): ae 195 #[al k,aa 0,aa j] w λv w'=>∃(y:cL) (H:HP),v=ak #[an (dN y).toArray,aa 0]/\y.x=c/\oe H y/\V O (H*(dU k m dl r*F)) w':=by
 obtain⟨P,hp,h⟩:=dU.aK h;have aQ:=(ct.1 hj).1;have nz:P.ys.length=m.length:=by rw[<-hp.1,fk]
 apply N2;refine aG h λk1 w1 h1=>ay (Lw h1.p1) ?_;rintro _ w2 ⟨rfl,h2⟩;have h3:=dp.mo h2;have hc:(dE m).length<=P.cf:=((dp.at h2).right.right.right.left).vJ;refine gK<|aw rfl<|aw (by simp;omega)<|aq<|aN (p:=P.q) (l:=P.ys.length) (c:=P.d) ?_<|aw (by simp;omega)<|aq<|aN (aB h3 (i:=0) rfl)<|ay (Lv hm.ok hm.len (dp.lC) hm.fN rfl hc h2.p1) ?_
 .rw[jG];exact aB h3 (i:=1) rfl
 rintro _ w3 ⟨ys,q,d,H,rfl,hx,hG,h4⟩;obtain⟨y,hy,uQ⟩:∃y,ys[j.toNat]?=some y/\y.x=c:=by rw[<-hx,eZ,dd] at hj;exact hj
 refine⟨_,_,rfl,aG h4 λrO w4 h5=>bL h5 rfl rfl (by simp[Value.oneCell']) λw5 h6=>aN (aB h6 (i:=0) rfl)<|kZ fT (by decide) (hG.v5 _ _ h6.right.left) h0 hy λa ha=>nu (fT y) ha ?_⟩;obtain⟨Z,hZ⟩:∃Z:aM,(mM:aM)=Z:=⟨_,rfl⟩;have DN:Z.size=19:=by rw[<-hZ];rfl
 rw[hZ] at h6;refine bL h6.p2 DN (by simp[fT]) (by simpa using sL y) λw6 h7=>bz h7 (by simp[fT]) ⟨y,H,rfl,uQ,hG.Bw y (dF hy),?_⟩;have h8:V O (dp P k m dl r*(H*F)) w6:=(h7.p3.p2.p2).right.right;exact(dU.aI hp h8).p1
def BD (r:rP):Bool:=r.ld&&(decide (r.c0=0)&&decide (r.c2=0))
theorem agS (h0:0<=r.cK) (h1:r.cK<=1000000) (h:V O (dU k m dl r*F) w): ae 90 #[al k] w λv w'=>v=aT/\V O (dU k m dl (if BD r then{r with cK:=r.cK+1} else r)*F) w':=by
 obtain⟨P,hp,h⟩:=dU.aK h;apply Zg;refine aw rfl<|aq<|aN (aB (dp.at h) (i:=0) rfl) ?_;refine⟨λn w' mm=>(n=0/\mm=1/\w'=w)\/(n=1/\mm=0/\V O (dU k m dl (if BD r then{r with cK:=r.cK+1} else r)*F) w'),⟨1,.inl ⟨rfl,rfl,rfl⟩⟩,?_⟩;rintro u _ w1 _ (⟨rfl,rfl,rfl⟩|⟨rfl,rfl,h2⟩)
 .refine aW rfl<|dp.BC h λa ha=>bh ha<|ay (RY h) ?_;rintro _ w2 ⟨rfl,h2⟩;have hr:BD r=(r.ld&&(decide (r.c0=0)&&decide (r.c2=0))):=rfl;refine cR ?_;rw[<-hr];refine cy (λe=> ?_) (λe=> ?_)
  .refine aq<|az (n:=r.cK) (aB (dp.mo h2) (i:=6) rfl)<|aY (by omega) (by omega)<|aq<|bD (i:=6) (dp.mo h2) (by simp[jA]) λw3 h3=>aY (by decide) (by decide) ⟨0,by decide,.inr ⟨rfl,rfl,?_⟩⟩;rw[if_pos e];exact dU.aI hp (dp.set (r':={r with cK:=r.cK+1}) h3)
  .refine aY (by decide) (by decide) ⟨0,by decide,.inr ⟨rfl,rfl,?_⟩⟩;rw[if_neg (by rw[e];decide)];exact dU.aI hp h2
 .exact aw rfl ⟨rfl,h2⟩
def qG (dl:Int) (r:rP):Bool:=BD r&&decide (dl<=r.cK)
theorem agT (h:V O (dU k m dl r*F) w): ae 50 #[al k] w λv w'=>∃q d,v=af q (if qG dl r then [0] else([]:aJ)).length d/\ V O (own 3 1 q (if qG dl r then [0] else([]:aJ)).length d (cO (if qG dl r then [0] else []))*(dU k m dl (if qG dl r then{r with ld:=false,cK:=0} else r)*F)) w':=by
 obtain⟨P,hp,h⟩:=dU.aK h;apply Y7;refine aw rfl<|aq<|aN (aB (dp.at h) (i:=0) rfl) ?_;refine⟨λp' l' c' n w' mm=>(n=0/\mm=1/\p'=none/\l'=0/\c'=0/\w'=w)\/(n=1/\mm=0/\l'=(if qG dl r then [0] else([]:aJ)).length/\V O (own 3 1 p' l' c' (cO (if qG dl r then [0] else []))*(dU k m dl (if qG dl r then{r with ld:=false,cK:=0} else r)*F)) w'),⟨1,.inl ⟨rfl,rfl,rfl,rfl,rfl,rfl⟩⟩,?_⟩;rintro u p1 l1 c1 _ w1 _ (⟨rfl,rfl,rfl,rfl,rfl,rfl⟩|⟨rfl,rfl,rfl,h2⟩)
 .refine aW rfl<|dp.BC h λa ha=>bh ha<|ay (RY h.drew) ?_;rintro _ w2 ⟨rfl,h2⟩;have hr:BD r=(r.ld&&(decide (r.c0=0)&&decide (r.c2=0))):=rfl;refine cR ?_;rw[<-hr];refine cy (λe=> ?_) (λe=> ?_)
  .refine aq<|az (n:=r.cK) (aB (dp.mo h2) (i:=6) rfl)<|aq<|az (n:=dl) (aB (dp.at h2) (i:=1) rfl)<|bU (λbW=> ?_) (λaQ=> ?_)
   .have ef:qG dl r=true:=by simp[qG,e];omega
    refine aq<|bD (i:=2) (dp.mo h2) (by simp[jA]) λw3 h3=>aq<|bD (i:=6) h3 (by simp[jA]) λw4 h4=> ?_;have h5:=dU.aI hp (dp.set (r':={r with ld:=false,cK:=0}) h4);refine aG h5 λLz w5 h6=>oG nR (h6.iZ 3 1).p1 rfl (by decide) (by decide) λp' c' w6 h7=>aY (by decide) (by decide) ⟨0,by decide,.inr ⟨rfl,rfl,?_,?_⟩⟩
    .rw[if_pos ef];rfl
    .simp only[ef,if_true];exact h7
   .have ef:qG dl r=false:=by simp[qG];intro;omega
    refine aY (by decide) (by decide) ⟨0,by decide,.inr ⟨rfl,rfl,by rw[ef];rfl,?_⟩⟩;simp only[ef];exact(dU.aI hp h2).iZ 3 1
  .have ef:qG dl r=false:=by simp[qG,e]
   refine aY (by decide) (by decide) ⟨0,by decide,.inr ⟨rfl,rfl,by rw[ef];rfl,?_⟩⟩;simp only[ef];exact(dU.aI hp h2).iZ 3 1
 .refine aw rfl ⟨p1,c1,rfl,h2⟩
theorem agU {x0 p:av} {z0 c:Nat} {ys:List cL} (OD:0<=dl/\dl<=1000) (hm:BB (ys.map cL.x)) (hG:kj F p ys) (hg:bd F 1 x0 1 [af p ys.length c]) (h:V O F w): ae 39 #[af x0 1 z0,aa dl] w λv w'=>∃k,v=ak #[al k,aa 0]/\V O (dU k (ys.map cL.x) dl ⟨false,0,0,0⟩*F) w':=by
 have hn:=(DF hm.ok).1.2;rw[fk] at hn;apply Y0;refine aw (by simp;omega)<|aw (by simp;omega)<|aw rfl<|aw rfl<|aG h λk1 w1 h1=> ?_;refine⟨λn w' mm=>(n=0/\mm=1/\w'=w1)\/(n=1/\mm=0/\V O (dU k1 (ys.map cL.x) dl ⟨false,0,0,0⟩*F) w'),⟨1,.inl ⟨rfl,rfl,rfl⟩⟩,?_⟩;rintro u _ w2 _ (⟨rfl,rfl,rfl⟩|⟨rfl,rfl,h2⟩);rotate_left
 .exact aw rfl ⟨k1,rfl,h2⟩
 refine aW rfl<|fM (hg _ _ h1.right) (by decide) (by decide) λa ha=> ?_;have ng:=(hg _ _ h1.right).get ha (j:=0) rfl;refine nu (vs:=[af p ys.length c]) rfl (λj u hu=> ?_)<|aG h1 λk9 w3 h2=>bL h2 rfl rfl (by simp[Value.oneCell']) λw4 h3=>bz h3 rfl<|ay (Rn hG.right.right hm.ok hm.len h3) ?_
 .match j,hu with
  |0,hu=>cases hu;simpa[Sp.add_zero] using ng
 rintro _ w5 ⟨q,n,d,rfl,h4⟩;have hl:n=(dE (ys.map cL.x)).length:=by have:=Fq h4.left;omega
 subst hl;have h5:V O (ab k9 #[af p ys.length c] 69*(ab k1 #[aP,aa dl] 205*(own 5 1 q (dE (ys.map cL.x)).length d (bc (dE (ys.map cL.x)))*F))) w5:=h4.p2.p2;refine⟨_,_,_,_,rfl,aw rfl<|aN (aB h5 (i:=0) rfl) ⟨λn w' mm=>∃j:Nat,n=j/\j<=ys.length/\mm=ys.length- j/\V O (ab k1 #[aP,aa dl] 205*(own 5 1 q (dE (ys.map cL.x)).length d (bc (dE (ys.map cL.x)))*F)) w',⟨_,0,rfl,by omega,rfl,h5.right⟩,?_⟩⟩;clear h5 h4 h3 h2;rintro u _ w6 mm ⟨j,rfl,hj,rfl,h5⟩;refine bU (λaQ=> ?_) (λbW=> ?_)
 .have hx:ys[j]?=some (ys[j]'(by omega)):=by simp[show j<ys.length by omega]
  generalize ys[j]'(by omega)=y at hx;refine kZ fT (by decide) (hG.v5 _ _ h5.right.right) (by omega) (by rw[cu];exact hx) λa ha=>nu (fT y) ha<|aG h5 λxP w7 h6=>bL h6 rfl (by simp[fT]) (by simpa using sL y) λw8 h7=>ff h7 (by simp[fT]) ?_;rw[(uX y).2.2.2];refine ay (agQ (jy.len y.ok) h7.p1) ?_;rintro _ w9 ⟨rfl,h8⟩;refine⟨_,_,_,rfl,aw rfl<|aY (by omega) (by omega) ⟨_,?_,j+1,by omega,by omega,rfl,h8.p1.right⟩⟩;omega
 .have mr:(dE (ys.map cL.x)).length<=d:=h5.p1.left.vJ;refine ay (Lv hm.ok hm.len (bd.right (bd.left bd.own)) hm.fN rfl mr h5) ?_;rintro _ w7 ⟨zs,q2,d2,H,rfl,hz,hH,h6⟩;refine⟨_,_,rfl,aG h6 λLA w8 h7=>bL h7 rfl rfl (by simp[Value.oneCell']) λw9 h8=> ?_⟩;have h8:=h8.drew;refine aN (aB h8.p2 (i:=0) rfl)<|bz h8 rfl ⟨rfl,aG h8 λxR dn h9=>aG h9 λk37 dP aV=> ?_⟩;refine oG agO (aV.iZ 190 1).p1 rfl (by decide) (by decide) λp' c' fF bu=> ?_;have em:((((#[]++#[af q (dE (ys.map cL.x)).length d])++#[af q2 zs.length d2])++#[aC false])++#[aH 0,aH 0,aH 0])++#[aa 0]=jA q (dE (ys.map cL.x)).length d q2 zs.length d2 ⟨false,0,0,0⟩:=rfl;rw[em] at bu;have bA:V O (ab k1 #[aP,aa dl] 205*(own 190 1 p' 1 c' ([]++[al xR])*(ab xR (jA q (dE (ys.map cL.x)).length d q2 zs.length d2 ⟨false,0,0,0⟩) 195*(ab LA #[af q2 zs.length d2] 69*(H*(own 5 1 q (dE (ys.map cL.x)).length d (bc (dE (ys.map cL.x)))*F)))))) fF:=bu.aF (by show _*_=_;ac_rfl);refine bD (i:=0) bA (by simp) λfZ bN=>aY (by decide) (by decide) ⟨0,by decide,.inr ⟨rfl,rfl,?_⟩⟩;refine dU.aI (P:=⟨p',c',xR,q,d,q2,d2,zs,H⟩) ⟨hz,hH⟩ ?_;refine dp.set (P:=⟨p',c',xR,q,d,q2,d2,zs,H⟩) ?_;refine(bN.aF (B:=ab LA #[af q2 zs.length d2] 69*_) ?_).right;simp only[Array.setIfInBounds,m8];ac_rfl
end
def dx (l:List Nat):dB:=l.map λ(n:Nat)=>aa (n:Int)
theorem G6 {l:List Nat} {j n:Nat} (h:l[j]?=some n):(dx l)[j]?=some (aa (n:Int)):=by simp[dx,h]
theorem LB {l:aJ} {j:Nat} {n:Int} (h:l[j]?=some n):(cO l)[j]?=some (aa n):=by simp[cO,h]
theorem agV (l:List Nat):∀u∈dx l,u.oneCell'=true:=by simp[dx,Value.oneCell']
structure wb where
 l:List Nat
 p:av
 c:Nat
def oh (e:wb):dB:=[af e.p e.l.length e.c]
theorem G7 (e:wb):(oh e).length=1:=rfl
def zn:Option Nat->Int
 |some n=>n
 |none=> -1
structure we where
 pc:av
 cc:Nat
 pe:av
 ce:Nat
 pl:av
 cl:Nat
 pw:av
 cw:Nat
 pr:av
 cr:Nat
 pf:av
 cf:Nat
 es:List wb
 H:HP
def eO (P:we) (r:fz):aM:=#[af P.pc r.cZ.length P.cc,af P.pe P.es.length P.ce,af P.pl r.eU.length P.cl,af P.pw r.waits.length P.cw,af P.pr r.eY.length P.cr,aa r.mU,aa (r.aj:Int),aa (zn r.lI),aa (r.eC:Int),af P.pf r.da.length P.cf]
def bH (P:we) (k:Nat) (r:fz):HP:=
 ab k (eO P r) 356*(own 2 1 P.pc r.cZ.length P.cc (cO r.cZ)*(aE 167 1 oh P.pe P.es.length P.ce P.es*(P.H*(own 3 1 P.pl r.eU.length P.cl (cO r.eU)*(jx 3 P.pw r.waits.length P.cw (dx r.waits)*(own 3 1 P.pr r.eY.length P.cr (dx r.eY)*own 3 1 P.pf r.da.length P.cf (dx r.da)))))))
def wg (P:we) (r:fz):Prop:=P.es.map (·.l)=r.lH/\∀e∈P.es,bd P.H 1 e.p e.l.length (dx e.l)
def dt (k:Nat) (r:fz):HP:=ex λ(P:we)=>bM (wg P r)*bH P k r
section
variable {O w:ao} {F:HP} {k:Nat} {r:fz} {P:we}
theorem dt.aK (h:V O (dt k r*F) w):∃P:we,wg P r/\V O (bH P k r*F) w:=by obtain⟨P,h⟩:=h.ex;have h:=h.a;exact⟨P,h.bM,h.right⟩
theorem dt.aI (hp:wg P r) (h:V O (bH P k r*F) w):V O (dt k r*F) w:=V.bO P ((V.eL hp h).g1)
theorem bH.at (h:V O (bH P k r*F) w):V O (ab k (eO P r) 356*(own 2 1 P.pc r.cZ.length P.cc (cO r.cZ)*(aE 167 1 oh P.pe P.es.length P.ce P.es*(P.H*(own 3 1 P.pl r.eU.length P.cl (cO r.eU)*(jx 3 P.pw r.waits.length P.cw (dx r.waits)*(own 3 1 P.pr r.eY.length P.cr (dx r.eY)*(own 3 1 P.pf r.da.length P.cf (dx r.da)*F)))))))) w:=h.aF (by unfold bH;ac_rfl)
theorem bH.mk (h:V O (ab k (eO P r) 356*(own 2 1 P.pc r.cZ.length P.cc (cO r.cZ)*(aE 167 1 oh P.pe P.es.length P.ce P.es*(P.H*(own 3 1 P.pl r.eU.length P.cl (cO r.eU)*(jx 3 P.pw r.waits.length P.cw (dx r.waits)*(own 3 1 P.pr r.eY.length P.cr (dx r.eY)*(own 3 1 P.pf r.da.length P.cf (dx r.da)*F)))))))) w):V O (bH P k r*F) w:=h.aF (by unfold bH;ac_rfl)
theorem bH.cell (h:V O (bH P k r*F) w) {i:Nat} {v:Value} (hv:(eO P r)[i]?=some v):w.cell? ((aD k).add i)=some v:=aB (bH.at h) hv
theorem bH.set (h:V O (bH P k r*F) w) {r':fz} {i:Nat} {v:Value} {K:ao->Prop} (hi:i<10) (hb:(eO P r).setIfInBounds i v=eO P r') (e1:r'.cZ=r.cZ) (e2:r'.eU=r.eU) (e3:r'.waits=r.waits) (e4:r'.eY=r.eY) (e5:r'.da=r.da) (hk:∀w',V O (bH P k r'*F) w'->K w'):st ((aD k).add i) v w K:=by
 have e0:(aD k).add i=⟨k,i,none⟩:=by rw[du,dc]
 rw[e0];refine pK (bH.at h) (by simp[eO];omega) λw' h'=>hk w' (bH.mk ?_);rw[hb] at h';rw[e1,e2,e3,e4,e5];exact h'
theorem LC {t:TypeId} {p:av} {l c j:Nat} {xs:dB} {x:Int} {K:Int->Prop} (h:V O (own t 1 p l c xs*F) w) (hj:xs[j]?=some (aa x)) (hk:K x):ba p l (j:Int) 1 λa=>ax .i64 a w K:=by have hl:=h.left.so;have aQ:=(ct.1 hj).1;refine fM h.left.rd (by omega) (by omega) λa ha=>az ?_ hk;rw[cu,jT];exact h.left.rd.get ha hj
theorem LD {t:TypeId} {p:av} {l c j:Nat} {xs:dB} {v:Value} {K:ao->Prop} (h:V O (own t 1 p l c xs*F) w) (hj:j<xs.length) (hk:∀w',V O (own t 1 p l c (xs.set j v)*F) w'->K w'):ba p l (j:Int) 1 λa=>st a v w K:=by
 have hl:=h.left.so;rcases Fv h.left with⟨rfl,Ff⟩|⟨g,rfl⟩
 .omega
 refine⟨⟨by omega,by omega⟩,?_⟩;rw[cu,jT,du,dc];exact IM h hj hk
theorem bH.cZ {j:Nat} {x:Int} {K:Int->Prop} (h:V O (bH P k r*F) w) (hj:r.cZ[j]?=some x) (hk:K x):ba P.pc r.cZ.length (j:Int) 1 λa=>ax .i64 a w K:=LC (bH.at h).right (LB hj) hk
theorem bH.eU {j:Nat} {x:Int} {K:Int->Prop} (h:V O (bH P k r*F) w) (hj:r.eU[j]?=some x) (hk:K x):ba P.pl r.eU.length (j:Int) 1 λa=>ax .i64 a w K:=LC (bH.at h).right.p3 (LB hj) hk
theorem bH.eY {j:Nat} {x:Nat} {K:Int->Prop} (h:V O (bH P k r*F) w) (hj:r.eY[j]?=some x) (hk:K (x:Int)):ba P.pr r.eY.length (j:Int) 1 λa=>ax .i64 a w K:=LC (bH.at h).right.right.p4 (G6 hj) hk
theorem RZ (l:aJ) (j:Nat) (x:Int):(cO l).set j (aa x)=cO (l.set j x):=by simp[cO]
theorem bH.agW {j:Nat} {x:Int} {K:ao->Prop} (h:V O (bH P k r*F) w) (hj:j<r.cZ.length) (hk:∀w',V O (bH P k {r with cZ:=r.cZ.set j x}*F) w'->K w'):ba P.pc r.cZ.length (j:Int) 1 λa=>st a (aa x) w K:=by
 refine LD (bH.at h).p1 (by simpa[cO] using hj) λw' h'=>hk w' (bH.mk ?_);rw[RZ] at h';have e:eO P {r with cZ:=r.cZ.set j x}=eO P r:=by simp[eO]
 rw[e];simpa using h'.p1
theorem bH.G8 {j:Nat} {x:Int} {K:ao->Prop} (h:V O (bH P k r*F) w) (hj:j<r.eU.length) (hk:∀w',V O (bH P k {r with eU:=r.eU.set j x}*F) w'->K w'):ba P.pl r.eU.length (j:Int) 1 λa=>st a (aa x) w K:=by
 refine LD (bH.at h).p4 (by simpa[cO] using hj) λw' h'=>hk w' (bH.mk ?_);rw[RZ] at h';have e:eO P {r with eU:=r.eU.set j x}=eO P r:=by simp[eO]
 rw[e];have h2:V O (own 3 1 P.pl r.eU.length P.cl (cO (r.eU.set j x))*(ab k (eO P r) 356*(own 2 1 P.pc r.cZ.length P.cc (cO r.cZ)*(aE 167 1 oh P.pe P.es.length P.ce P.es*(P.H*(jx 3 P.pw r.waits.length P.cw (dx r.waits)*(own 3 1 P.pr r.eY.length P.cr (dx r.eY)*(own 3 1 P.pf r.da.length P.cf (dx r.da)*F)))))))) w':=h';simp only[List.length_set];exact h2.p4.p4.p4.p4
theorem bH.LF {n:Nat} {i:Int} {K:ao->Prop} (hi:i=n) (h:V O (bH P k r*F) w) (hl:r.waits.length<=10000) (hk:∀P' w',P'.es=P.es->P'.H=P.H->V O (bH P' k {r with waits:=r.waits++[n]}*F) w'->K w'): new #[aa i] 3 w λk3 w4=>bR au (Builtin.append_ #[167,167] 167 #[af P.pw r.waits.length P.cw,af (aU k3) 1 1]) w4 λp l c w5=>nn (aU k) λa=>st (a.add 3) (af p l c) w5 K:=by
 subst hi;refine aG (bH.at h) λk3 w4 h4=> ?_;have h5:V O (ab k3 #[aa (n:Int)] 3*(jx 3 P.pw r.waits.length P.cw (dx r.waits)*(ab k (eO P r) 356*(own 2 1 P.pc r.cZ.length P.cc (cO r.cZ)*(aE 167 1 oh P.pe P.es.length P.ce P.es*(P.H*(own 3 1 P.pl r.eU.length P.cl (cO r.eU)*(own 3 1 P.pr r.eY.length P.cr (dx r.eY)*(own 3 1 P.pf r.da.length P.cf (dx r.da)*F))))))))) w4:=h4.p6.p1;refine Qc nR h5 rfl (by simp only[maxLen];omega) (by omega) λp c w5 h6=>aq<| ?_;rw[du,dc];refine pK h6.p1 (by simp[eO]) λw6 h7=>hk {P with pw:=p,cw:=c} w6 rfl rfl (bH.mk ?_);have e:(eO P r).setIfInBounds 3 (af p (r.waits.length+1) c)=eO {P with pw:=p,cw:=c} {r with waits:=r.waits++[n]}:=by simp[eO]
 have e2:dx r.waits++[aa (n:Int)]=dx (r.waits++[n]):=by simp[dx]
 rw[e,e2] at h7;have e3:r.waits.length+1=(r.waits++[n]).length:=by simp
 rw[e3] at h7;exact h7.aF (by dsimp only;ac_rfl)
theorem bH.agX {n:Nat} {i:Int} {K:ao->Prop} (hi:i=n) (h:V O (bH P k r*F) w) (hl:r.eY.length<=10000) (hk:∀P' w',P'.es=P.es->P'.H=P.H->V O (bH P' k {r with eY:=r.eY++[n]}*F) w'->K w'): new #[aa i] 3 w λk3 w4=>bR au (Builtin.append_ #[167,167] 167 #[af P.pr r.eY.length P.cr,af (aU k3) 1 1]) w4 λp l c w5=>nn (aU k) λa=>st (a.add 4) (af p l c) w5 K:=by
 subst hi;refine aG (bH.at h) λk3 w4 h4=> ?_;have h5:V O (ab k3 #[aa (n:Int)] 3*(own 3 1 P.pr r.eY.length P.cr (dx r.eY)*(ab k (eO P r) 356*(own 2 1 P.pc r.cZ.length P.cc (cO r.cZ)*(aE 167 1 oh P.pe P.es.length P.ce P.es*(P.H*(own 3 1 P.pl r.eU.length P.cl (cO r.eU)*(jx 3 P.pw r.waits.length P.cw (dx r.waits)*(own 3 1 P.pf r.da.length P.cf (dx r.da)*F))))))))) w4:=h4.p7.p1;refine oG nR h5 rfl (by simp only[maxLen];omega) (by omega) λp c w5 h6=>aq<| ?_;rw[du,dc];refine pK h6.p1 (by simp[eO]) λw6 h7=>hk {P with pr:=p,cr:=c} w6 rfl rfl (bH.mk ?_);have e:(eO P r).setIfInBounds 4 (af p (r.eY.length+1) c)=eO {P with pr:=p,cr:=c} {r with eY:=r.eY++[n]}:=by simp[eO]
 have e2:dx r.eY++[aa (n:Int)]=dx (r.eY++[n]):=by simp[dx]
 rw[e,e2] at h7;have e3:r.eY.length+1=(r.eY++[n]).length:=by simp
 rw[e3] at h7;exact h7.aF (by dsimp only;ac_rfl)
theorem bH.agY {n:Nat} {i:Int} {K:ao->Prop} (hi:i=n) (h:V O (bH P k r*F) w) (hl:r.da.length<=10000) (hk:∀P' w',P'.es=P.es->P'.H=P.H->V O (bH P' k {r with da:=r.da++[n]}*F) w'->K w'): new #[aa i] 3 w λk3 w4=>bR au (Builtin.append_ #[167,167] 167 #[af P.pf r.da.length P.cf,af (aU k3) 1 1]) w4 λp l c w5=>nn (aU k) λa=>st (a.add 9) (af p l c) w5 K:=by
 subst hi;refine aG (bH.at h) λk3 w4 h4=> ?_;have h5:V O (ab k3 #[aa (n:Int)] 3*(own 3 1 P.pf r.da.length P.cf (dx r.da)*(ab k (eO P r) 356*(own 2 1 P.pc r.cZ.length P.cc (cO r.cZ)*(aE 167 1 oh P.pe P.es.length P.ce P.es*(P.H*(own 3 1 P.pl r.eU.length P.cl (cO r.eU)*(jx 3 P.pw r.waits.length P.cw (dx r.waits)*(own 3 1 P.pr r.eY.length P.cr (dx r.eY)*F))))))))) w4:=h4.p8.p1;refine oG nR h5 rfl (by simp only[maxLen];omega) (by omega) λp c w5 h6=>aq<| ?_;rw[du,dc];refine pK h6.p1 (by simp[eO]) λw6 h7=>hk {P with pf:=p,cf:=c} w6 rfl rfl (bH.mk ?_);have e:(eO P r).setIfInBounds 9 (af p (r.da.length+1) c)=eO {P with pf:=p,cf:=c} {r with da:=r.da++[n]}:=by simp[eO]
 have e2:dx r.da++[aa (n:Int)]=dx (r.da++[n]):=by simp[dx]
 rw[e,e2] at h7;have e3:r.da.length+1=(r.da++[n]).length:=by simp
 rw[e3] at h7;exact h7.aF (by dsimp only;ac_rfl)
end
end Go.Proofs.YtjhnnnfnkjighaaGreatDoor
