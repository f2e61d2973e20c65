/- Whole: a part of the proof. No conditions. -/
import Derived.Test.YtjhnnnfnkjighaaGreatDoorQ08
import Derived.Laws.StructEq
import Derived.ChangeKeysEq
import Derived.MapKept
set_option linter.unusedVariables false
set_option linter.unusedSimpArgs false
set_option maxRecDepth 100000
set_option linter.unusedSectionVars false
namespace Go.Proofs.YtjhnnnfnkjighaaGreatDoor
open Go.Sp Go.RowKit
section
open Go.ChangeShapes Go.WideShapes Go.Deep
variable {H:Type} {enc:TypeId×Value->H} {W:ao} {base:Nat}
end
theorem gv.Ow (a b:gv):(a.fl=b.fl/\a.rf=b.rf/\a.ox=b.ox/\a.dy=b.dy/\a.bs=b.bs)↔a=b:=by cases a;cases b;simp
instance:DecidableEq gv:=λa b=>decidable_of_iff _ (gv.Ow a b)
theorem Ox {a b:aJ} (d:Nat) (w:ao):∀(is:List Nat),(∀i∈is,i<a.length/\i<b.length)-> (Op.eqItems (d+1) 5 (Tryz.prog.cellsOf 5) (bc a).toArray (bc b).toArray is).run au w=.ok (decide (∀i∈is,a[i]?=b[i]?)) w
 |[],_=>by simp[Op.eqItems]
 |i::is,h=>by
  have ih:=Ox (a:=a) (b:=b) d w is λj hj=>h j (.tail _ hj);obtain⟨h1,h2⟩:=h i (.head _);have jH:Tryz.prog.cellsOf 5=1:=by kernel_rfl
  have hu:=Tryz.underlying5;have p1:(part 5 (bc a).toArray (i*Tryz.prog.cellsOf 5)).run au w=.ok (.int .u8 a[i]) w:=qa hu (by unfold lv;rw[hu];simp) (by rw[jH];simp[bc,h1]) w;have p2:(part 5 (bc b).toArray (i*Tryz.prog.cellsOf 5)).run au w=.ok (.int .u8 b[i]) w:=qa hu (by unfold lv;rw[hu];simp) (by rw[jH];simp[bc,h2]) w;have p3:=run_equalIn_int w d 5 .u8 .u8 a[i] b[i] hu;simp only[Op.eqItems,Sem.run_bind,p1,p2,p3,Result.andThen_ok];by_cases e:a[i]=b[i]
  .simp[e,ih,h1,h2]
  .simp[e,h1,h2]
theorem Jc {a b:aJ} (la:a.length=16) (lb:b.length=16) (d:Nat) (w:ao): (Op.equalIn (d+1+1) 30 (an (bc a).toArray) (an (bc b).toArray)).run au w=.ok (decide (a=b)) w:=by
 have hf:Tryz.prog.info? 5=some (Tryz.prog.types[5]'(of_decide_eq_true (by kernel_rfl))):=by kernel_rfl
 rw[run_equalIn_array w (d+1) _ _ Tryz.underlying30 hf,Ox d w _ (λi hi=>by rw[vr] at hi;omega)];congr 1;rw[sX];simp only[decide_eq_true_eq,vr];constructor
 .intro h;apply qQ;intro i;by_cases hi:i<16
  .exact h i hi
  .rw[ua (by omega),ua (by omega)]
 .rintro rfl i _;rfl
theorem uy {d:Nat} {xs ys:aM} {f:Field} {fs:List Field} {w:ao} {a b:Value} {r:Bool} (hn:f.name≠ "_") (ha:(part f.type xs f.offset).run au w=.ok a w) (hb:(part f.type ys f.offset).run au w=.ok b w) (he:(Op.equalIn d f.type a b).run au w=.ok r w): (Op.eqFields d xs ys (f::fs)).run au w=if r=true then(Op.eqFields d xs ys fs).run au w else .ok false w:=by simp only[Op.eqFields,if_pos hn,Sem.run_bind,ha,hb,he,Result.andThen_ok];cases r<;>simp
theorem FE {x:gv} (hx:jV x) (o:Nat) (ho:o+16<=32) (w:ao):(part 30 (bF x) (4+o)).run au w=.ok (an (bc ((x.bs.drop o).take 16)).toArray) w:=by
 have hu:=Tryz.underlying30;have hf:Tryz.prog.info? 30=some (Tryz.prog.types[30]'(of_decide_eq_true (by kernel_rfl))):=by kernel_rfl
 have gW:(Tryz.prog.types[30]'(of_decide_eq_true (by kernel_rfl))).size=16:=by kernel_rfl
 have h1:(bF x).extract (4+o) (4+o+16)=(bc ((x.bs.drop o).take 16)).toArray:=by apply cT;rw[pV,oZ];show((kO x++bc x.bs).drop (4+o)).take (4+o+16- (4+o))=bc ((x.bs.drop o).take 16);rw[ub,mJ (by simp[kO]),m8,show 4+o- (kO x).length=o by simp[kO],show 4+o+16- (4+o)=16 by omega];simp[bc,wJ,List.map_drop]
 have:=Cn (P:=au) (t:=30) (by unfold lv;rw[hu]);simp[part,this,na hf,gW,h1]
theorem ab2 {a b:aJ} (la:a.length=32) (lb:b.length=32):((a.drop 0).take 16=(b.drop 0).take 16/\(a.drop 16).take 16=(b.drop 16).take 16)↔a=b:=by
 constructor
 .rintro⟨h1,h2⟩;have e:∀{c:aJ},c.length=32->(c.drop 0).take 16++(c.drop 16).take 16=c:=by intro c hc;rw[m9,eW (l:=c.drop 16) (by simp;omega),mK]
  rw[<-e la,<-e lb,h1,h2]
 .rintro rfl;exact⟨rfl,rfl⟩
theorem ab3 {x y:gv} (hx:jV x) (hy:jV y) {A:Result Bool} {w:ao} (hA:A=.ok true w): (if(x.fl==y.fl)=true then if(x.rf==y.rf)=true then if(x.ox==y.ox)=true then if(x.dy==y.dy)=true then if decide ((x.bs.drop 0).take 16=(y.bs.drop 0).take 16)=true then if decide ((x.bs.drop 16).take 16=(y.bs.drop 16).take 16)=true then A else .ok false w else .ok false w else .ok false w else .ok false w else .ok false w else .ok false w)=.ok (decide (x=y)) w:=by
 subst hA;have hh:=ab2 hx.len hy.len;have uz:=gv.Ow x y;rw[<-hh] at uz;by_cases h0:x.fl=y.fl
 .by_cases h1:x.rf=y.rf
  .by_cases h2:x.ox=y.ox
   .by_cases h3:x.dy=y.dy
    .by_cases h4:(x.bs.drop 0).take 16=(y.bs.drop 0).take 16
     .by_cases h5:(x.bs.drop 16).take 16=(y.bs.drop 16).take 16
      .have:x=y:=uz.1 ⟨h0,h1,h2,h3,h4,h5⟩;subst this;simp
      .have:x≠y:=λe=>h5 (uz.2 e).2.2.2.2.2;simp only[h0,h1,h2,h3,h4,h5,this,decide_true,decide_false,beq_self_eq_true,if_true,lS,if_false]
     .have:x≠y:=λe=>h4 (uz.2 e).2.2.2.2.1;simp only[h0,h1,h2,h3,h4,this,decide_true,decide_false,beq_self_eq_true,if_true,lS,if_false]
    .have:x≠y:=λe=>h3 (uz.2 e).2.2.2.1;simp[h0,h1,h2,h3,this]
   .have:x≠y:=λe=>h2 (uz.2 e).2.2.1;simp[h0,h1,h2,this]
  .have:x≠y:=λe=>h1 (uz.2 e).2.1;simp[h0,h1,this]
 .have:x≠y:=λe=>h0 (uz.2 e).1;simp[h0,this]
theorem ab4 {x y:gv} (hx:jV x) (hy:jV y) (w:ao):(Op.equal 164 (an (bF x)) (an (bF y))).run au w=.ok (decide (x=y)) w:=by
 obtain⟨d,hd⟩:∃d,Op.maxDepth=d+1+1+1:=⟨9997,by kernel_rfl⟩;have e:Op.equal 164 (an (bF x)) (an (bF y))=Op.equalIn (d+1+1+1) 164 (an (bF x)) (an (bF y)):=by unfold Op.equal;rw[hd]
 have hp:Tryz.prog.stoodInHeld 164=false:=by kernel_rfl
 have hu:=Tryz.underlying164;have CM:∀{fs},Tryz.prog.underlying 164=some (.struct fs)->Tryz.prog.fieldsOf 164=fs:=by intro fs h;unfold Program.fieldsOf;rw[h]
 have uA:=CM hu;rw[e,run_equalIn_struct w (d+1+1) 164 _ _ (by rw[uA];exact hu) hp,uA];have pI:∀(t:TypeId) (k:IntKind) (hu:Tryz.prog.underlying t=some (.int k)) (z:gv) (i:Nat) (n:Int),(bF z)[i]?=some (.int k n)->(part t (bF z) i).run au w=.ok (.int k n) w:=by intro t k hu z i n hz;exact qa hu (by unfold lv;rw[hu];simp) hz w
 have lg:∀{z:gv},jV z->∀o,o+16<=32->((z.bs.drop o).take 16).length=16:=by intro z hz o ho;have:=hz.len;simp;omega
 have AA:=Tryz.underlying108;have AB:=Tryz.underlying26;have c0:∀fs,(Op.eqFields (d+1+1) (bF x) (bF y) (⟨"Flags",108,0,false, "", "",0⟩::fs)).run au w=_:=λfs=>uy (by decide) (pI _ _ AA x 0 x.fl rfl) (pI _ _ AA y 0 y.fl rfl) (run_equalIn_int w (d+1) _ .u32 .u32 _ _ AA);have c1:∀fs,(Op.eqFields (d+1+1) (bF x) (bF y) (⟨"Refs",108,1,false, "", "",4⟩::fs)).run au w=_:=λfs=>uy (by decide) (pI _ _ AA x 1 x.rf rfl) (pI _ _ AA y 1 y.rf rfl) (run_equalIn_int w (d+1) _ .u32 .u32 _ _ AA);have c2:∀fs,(Op.eqFields (d+1+1) (bF x) (bF y) (⟨"Oxid",26,2,false, "", "",8⟩::fs)).run au w=_:=λfs=>uy (by decide) (pI _ _ AB x 2 x.ox rfl) (pI _ _ AB y 2 y.ox rfl) (run_equalIn_int w (d+1) _ .u64 .u64 _ _ AB);have c3:∀fs,(Op.eqFields (d+1+1) (bF x) (bF y) (⟨"Oid",26,3,false, "", "",16⟩::fs)).run au w=_:=λfs=>uy (by decide) (pI _ _ AB x 3 x.dy rfl) (pI _ _ AB y 3 y.dy rfl) (run_equalIn_int w (d+1) _ .u64 .u64 _ _ AB);have c4:∀fs,(Op.eqFields (d+1+1) (bF x) (bF y) (⟨"Ipid",30,4,false, "", "",24⟩::fs)).run au w=_:=λfs=>uy (by decide) (FE hx 0 (by omega) w) (FE hy 0 (by omega) w) (Jc (lg hx 0 (by omega)) (lg hy 0 (by omega)) d w);have c5:∀fs,(Op.eqFields (d+1+1) (bF x) (bF y) (⟨"Iid",30,20,false, "", "",40⟩::fs)).run au w=_:=λfs=>uy (by decide) (FE hx 16 (by omega) w) (FE hy 16 (by omega) w) (Jc (lg hx 16 (by omega)) (lg hy 16 (by omega)) d w);refine(c0 _).trans ?_;rw[c1,c2,c3,c4,c5];exact ab3 hx hy (by simp[Op.eqFields])
theorem ab5 {x y:gv} (hx:jV x) (hy:jV y) {K:Bool->Prop} (hk:K (decide (x=y))):still au (Op.equal 164 (an (bF x)) (an (bF y))) K:=⟨_,λw=>ab4 hx hy w,hk⟩
abbrev OR:={x:gv// jV x}
def cS (x:OR):dB:=(bF x.1).toList
theorem nO (x:OR):(cS x).length=36:=by have:=dq x.2;simpa[cS] using this
theorem mR (x:OR):∀u∈cS x,u.oneCell'=true:=by
 intro u hu;have hu:u∈kO x.1++bc x.1.bs:=by simpa[cS,bF] using hu
 rcases fj.1 hu with hu|hu
 .simp[kO] at hu;rcases hu with rfl|rfl|rfl|rfl<;>rfl
 .exact jt _ u hu
theorem Oy (x:OR):(cS x).toArray=bF x.1:=by simp[cS]
def jW:OR:=⟨⟨0,0,0,0,List.replicate 32 0⟩,⟨by decide,by decide,by decide,by decide,by decide,by decide⟩⟩
theorem ab6 {x y:OR} {K:Bool->Prop} (hk:K (decide (x=y))):still au (Op.equal 164 (an (bF x.1)) (an (bF y.1))) K:=by
 refine ab5 x.2 y.2 ?_;have e:decide (x.1=y.1)=decide (x=y):=by
  by_cases h:x=y
  .subst h;simp
  .have:x.1≠y.1:=λe=>h (Subtype.ext e);simp[h,this]
 rw[e];exact hk
section
open Go.ChangeShapes Go.WideShapes Go.Deep
variable {H:Type} {enc:TypeId×Value->H} {W:ao} {base:Nat}
end
theorem ab7 {bs:aJ} (hr:∀b∈bs,0<=b/\b<=255):jV (kP bs).1:=by
 unfold kP;split
 .exact uw
 .split
  .exact Ja (by omega) hr
  .exact uw
theorem Oz {x:gv} (hx:jV x):∀b∈ja x,0<=b/\b<=255:=by
 intro b hb;rw[Jb] at hb;simp only[fj] at hb;rcases hb with hb|hb|hb|hb|hb|hb|hb
 .exact xd _ _ b hb
 .exact xd _ _ b hb
 .exact xd _ _ b hb
 .exact xd _ _ b hb
 .exact xd _ _ b hb
 .exact xd _ _ b hb
 .exact hx.rk b hb
theorem ab8 {x:gv} (hx:jV x) (hr:i9 x=true):kP (ja x)=(x,0):=by have hL:=FB hx;rw[kP,if_neg (by omega),ab1 (by omega) (Oz hx),(Ov hx).1,hr];simp
theorem ab9 (bs:aJ) (i:Nat) (b:Int):(bc bs).set i (.int .u8 b)=bc (bs.set i b):=by simp[bc,wK]
structure PK where
 kd:Int
 fr:Int
 to:Int
 sq:Int
 cl:Int
 ip:aJ
 md:Int
 n:Int
 cd:Int
 rs:List OR
deriving DecidableEq
def i64 (n:Int):Prop:= -9223372036854775808<=n/\n<=9223372036854775807
def u64 (n:Int):Prop:=0<=n/\n<=18446744073709551615
structure jb (x:PK):Prop where
 kd:i64 x.kd
 fr:i64 x.fr
 to:i64 x.to
 sq:u64 x.sq
 cl:u64 x.cl
 ip:x.ip.length=16
 rk:∀b∈x.ip,0<=b/\b<=255
 md:i64 x.md
 n:i64 x.n
 cd:i64 x.cd
def dW:aJ:=List.replicate 16 0
def dX:PK:=⟨0,0,0,0,0,dW,0,0,0,[]⟩
def mv (x:PK) (v:Value):dB:=[aa x.md,aa x.n,aa x.cd,v]
def jI (x:PK) (v:Value):dB:=[aa x.kd,aa x.fr,aa x.to,ah x.sq,ah x.cl]++(bc x.ip++mv x v)
def bC (x:PK) (v:Value):aM:=(jI x v).toArray
theorem OA {x:PK} {v:Value} (h:x.ip.length=16):(jI x v).length=25:=by simp[jI,mv,dh,h]
theorem jc {x:PK} {v:Value} (h:x.ip.length=16):(bC x v).size=25:=by simp[bC,OA h]
theorem aca {x:PK} {v:Value} (h:x.ip.length=16) {j:Nat} (hj:j<16):(bC x v)[5+j]?=(bc x.ip)[j]?:=by rw[bC,kI,jI,ix (by simp)];rw[r9 (by simp[dh,h];omega)];simp
theorem CN {x:PK} {v:Value} (h:x.ip.length=16) (j:Nat):(bC x v)[21+j]?=(mv x v)[j]?:=by rw[bC,kI,jI,ix (by simp;omega),ix (by simp[dh,h];omega)];congr 1;simp[dh,h];omega
theorem yJ {x:PK} {p:av} {l c:Nat}:∀u∈(bC x (af p l c)).toList,u.oneCell'=true:=by
 intro u hu;have hu:u∈jI x (af p l c):=by simpa[bC] using hu
 simp only[jI,mv,fj,pa,Cf,or_false] at hu;rcases hu with(rfl|rfl|rfl|rfl|rfl)|hu|rfl|rfl|rfl|rfl<;>first|rfl|exact jt _ _ hu
theorem yK (x y:PK):x=y↔x.kd=y.kd/\x.fr=y.fr/\x.to=y.to/\x.sq=y.sq/\x.cl=y.cl/\x.ip=y.ip/\x.md=y.md/\x.n=y.n/\x.cd=y.cd/\x.rs=y.rs:=by cases x;cases y;simp
section
variable {O w:ao} {F:HP} {k:Nat} {t:TypeId} {x:PK} {v:Value}
theorem mw {K:aM->Prop} (h:V O (ab k (bC x v) t*F) w) (hx:x.ip.length=16) (hk:K (bC x v)):aA (aD k) 25 w K:=bz h (jc hx) hk
theorem Jd {K:aM->Prop} (h:V O (ab k (bC x v) t*F) w) (hx:x.ip.length=16) (hk:K (bc x.ip).toArray):aA ((aD k).add 5) 16 w K:=by
 refine oF (by simp[dh,hx]) (λi hi=> ?_) hk;rw[du,du,dc];have e:(bC x v)[5+i]?=some ((bC x v)[5+i]'(by rw[jc hx];omega)):=by simp[jc hx]
 rw[h.left.cell e,<-e,aca hx hi];simp
theorem FF (h:V O (ab k (bC x v) t*F) w) (hx:x.ip.length=16) (j:Nat) {u:Value} (hu:(mv x v)[j]?=some u):w.cell? ((aD k).add (21+j))=some u:=by refine aB h ?_;rw[CN hx,hu]
theorem AD {a b:aJ} (la:a.length=16) (lb:b.length=16) {K:Bool->Prop} (hk:K (decide (a=b))):still au (Op.equal 30 (an (bc a).toArray) (an (bc b).toArray)) K:=by refine⟨_,λw=> ?_,hk⟩;obtain⟨d,hd⟩:∃d,Op.maxDepth=d+1+1:=⟨9998,by kernel_rfl⟩;unfold Op.equal;rw[hd];exact Jc la lb d w
end
theorem FG {w:ao} {p:av} {l:Nat} {xs:List OR} {i:Nat} {x:OR} {a:Addr} {K:aM->Prop} (h:Rd w 36 p l (xs.flatMap cS)) (hp:p=some a) (hx:xs[i]?=some x) (hk:K (bF x.1)):aA (a.add (i*36)) 36 w K:=by
 refine oF (dq x.2) (λj hj=> ?_) hk;have e:(cS x)[j]?=some ((cS x)[j]'(by rw[nO];exact hj)):=by simp[nO,hj]
 rw[jG,h.2.2 a hp _ _ ((Fw nO hx hj).trans e),<-Oy,kI,e]
theorem FH {w:ao} {p:av} {l:Nat} {xs:List OR} (h:Rd w 36 p l (xs.flatMap cS)):xs.length=l:=by have:=h.1;rw[td nO] at this;omega
theorem acb {w:ao} {p q:av} {l c m d:Nat} {xs ys:List OR} (hx:Rd w 36 p l (xs.flatMap cS)) (hy:Rd w 36 q m (ys.flatMap cS)) (hl:l<=4611686018427387904): Reads au 411 #[af p l c,af q m d] w (aC (decide (xs=ys))):=by
 apply YY;have el:=FH hx;have em:=FH hy;refine cy (λcp=> ?_) (λheq=> ?_)
 .refine⟨?_,lX.refl w⟩;rw[decide_eq_false];intro e;subst e;simp[<-el,em] at cp
 .have aml:(l:Int)=m:=by simpa using heq
  have hlm:l=m:=by omega
  refine⟨λn w' k=>0<=n/\n<=l/\k=l- n.toNat/\xs.take n.toNat=ys.take n.toNat/\lX w w',⟨_,by omega,by omega,rfl,by simp,lX.refl w⟩,?_⟩;rintro u n w1 k ⟨h0,h1,rfl,he,hw⟩;refine bU (λaQ=> ?_) (λbW=> ?_)
  .have hi:n.toNat<xs.length:=by omega
   have hj:n.toNat<ys.length:=by omega
   have oL:xs[n.toNat]?=some xs[n.toNat]:=by simp[hi]
   have CO:ys[n.toNat]?=some ys[n.toNat]:=by simp[hj]
   refine fM (hx.nc hw.drew) h0 (by omega) λa ha=>FG (hx.nc hw.drew) ha oL<|fM (hy.nc hw.drew) h0 (by omega) λb hb=>FG (hy.nc hw.drew) hb CO<|ab6<|cy (λcp=> ?_) (λheq=> ?_)
   .refine⟨?_,hw.drew⟩;rw[decide_eq_false];intro e;subst e;simp at cp
   .have heq:xs[n.toNat]=ys[n.toNat]:=by simpa using heq
    refine aY (by omega) (by omega) ⟨_,by omega,by omega,by omega,rfl,?_,hw.drew⟩;rw[show(n+1).toNat=n.toNat+1 by omega,fV,fV,he,oL,CO,heq]
  .refine⟨?_,hw⟩;rw[eW (by omega),eW (by omega)] at he;rw[he];simp
section
variable {O w:ao} {F:HP} {x y:PK} {p q:av} {l c m d:Nat}
theorem acd (h:V O F w) (hx:x.ip.length=16) (hy:y.ip.length=16) (gx:bd F 36 p l (x.rs.flatMap cS)) (gy:bd F 36 q m (y.rs.flatMap cS)) (hl:l<=4611686018427387904): ae 382 #[an (bC x (af p l c)),an (bC y (af q m d))] w λv w'=>v=aC (decide (x=y))/\V O F w':=by apply YX;refine aG h λk1 w1 h1=>aG h1 λk2 w2 h2=> ?_;have h2:V O (ab k2 (bC y (af q m d)) 150*(ab k1 (bC x (af p l c)) 150*F)) w2:=h2;have c2:∀{v:Value},∀i,(bC y (af q m d))[i]?=some v->w2.cell? ((aD k2).add i)=some v:=λi e=>aB h2 e;have c1:∀{v:Value},∀i,(bC x (af p l c))[i]?=some v->w2.cell? ((aD k1).add i)=some v:=λi e=>aB h2.right e;have t2:∀j,∀{v:Value},(mv y (af q m d))[j]?=some v->w2.cell? ((aD k2).add (21+j))=some v:=λj _ e=>FF h2 hy j e;have t1:∀j,∀{v:Value},(mv x (af p l c))[j]?=some v->w2.cell? ((aD k1).add (21+j))=some v:=λj _ e=>FF h2.right hx j e;have hF:=h2.right.right;have no:∀{X:Prop},(x=y->X)->¬X->aC false=aC (decide (x=y))/\V O F w2:=λhX hn=>⟨by rw[decide_eq_false λe=>hn (hX e)],hF⟩;refine az (c1 0 rfl)<|az (c2 0 rfl)<|cy (λe0=> ?_) (λhn=>no (X:=x.kd=y.kd) (λe=>by rw[e]) (by simpa using hn));refine az (c1 1 rfl)<|az (c2 1 rfl)<|cy (λe1=> ?_) (λhn=>no (X:=x.fr=y.fr) (λe=>by rw[e]) (by simpa using hn));refine az (c1 2 rfl)<|az (c2 2 rfl)<|cy (λe2=> ?_) (λhn=>no (X:=x.to=y.to) (λe=>by rw[e]) (by simpa using hn));refine az (c1 3 rfl)<|az (c2 3 rfl)<|cy (λe3=> ?_) (λhn=>no (X:=x.sq=y.sq) (λe=>by rw[e]) (by simpa using hn));refine az (c1 4 rfl)<|az (c2 4 rfl)<|cy (λe4=> ?_) (λhn=>no (X:=x.cl=y.cl) (λe=>by rw[e]) (by simpa using hn));refine Jd h2.right hx<|Jd h2 hy<|AD hx hy<|cy (λe5=> ?_) (λhn=>no (X:=x.ip=y.ip) (λe=>by rw[e]) (by simpa using hn));refine az (t1 0 rfl)<|az (t2 0 rfl)<|cy (λe6=> ?_) (λhn=>no (X:=x.md=y.md) (λe=>by rw[e]) (by simpa using hn));refine az (t1 1 rfl)<|az (t2 1 rfl)<|cy (λe7=> ?_) (λhn=>no (X:=x.n=y.n) (λe=>by rw[e]) (by simpa using hn));refine az (t1 2 rfl)<|az (t2 2 rfl)<|cy (λe8=> ?_) (λhn=>no (X:=x.cd=y.cd) (λe=>by rw[e]) (by simpa using hn));refine aN (t1 3 rfl)<|aN (t2 3 rfl)<|abq (acb (gx _ _ hF) (gy _ _ hF) hl) λw3 hw=>cR ⟨?_,hF.nc hw⟩;simp at e0 e1 e2 e3 e4 e5 e6 e7 e8;congr 1;rw[sX];simp[yK,e0,e1,e2,e3,e4,e5,e6,e7,e8]
end
def iF (x:PK):Prop:=0<=x.fr/\x.fr<=3/\0<=x.to/\x.to<=3/\x.fr≠x.to/\
 ((x.kd=1/\x.rs.length<=1/\(∀r∈x.rs,i9 r.1=true)/\0<=x.md/\x.md<=7/\x.cd=0)\/
 (x.kd=2/\x.ip=dW/\x.md=0/\x.rs=[]/\0<=x.cd/\x.cd<=20)\/
 ((x.kd=3\/x.kd=4)/\x.cl=0/\x.md=0/\x.cd=0/\x.rs=[]/\1<=x.n/\x.n<=4294967295)\/
 (x.kd=5/\x.cl=0/\x.ip=dW/\x.md=0/\x.cd=0/\x.n=0/\x.rs=[]))
instance (x:PK):Decidable (iF x):=by unfold iF;infer_instance
def ti (g:aJ):Int:=g.foldl (λn c=>n*256+c) 0
def vL (g:aJ):Option Int:=if lA (ti (g.drop 8))=g then some (ti (g.drop 8)) else none
theorem ace (l:aJ) (c:Int):ti (l++[c])=ti l*256+c:=by simp[ti]
theorem OB:∀(l:aJ) (a:Int),0<=a->(∀b∈l,0<=b/\b<=255)->0<=l.foldl (λn c=>n*256+c) a/\l.foldl (λn c=>n*256+c) a<(a+1)*256^l.length
 |[],a,ha,_=>by simp only[Ck,yk];omega
 |c::l,a,ha,h=>by have h3:=h c (by simp);obtain⟨h1,h2⟩:=OB l (a*256+c) (by omega) (λb hb=>h b (by simp[hb]));refine⟨h1,Int.lt_of_lt_of_le h2 ?_⟩;rw[iB,Int.pow_succ,Int.mul_comm (256^l.length) 256,<-Int.mul_assoc];exact Int.mul_le_mul_of_nonneg_right (by omega) (Int.le_of_lt (Int.pow_pos (by decide)))
theorem OC (l:aJ) (h:∀b∈l,0<=b/\b<=255):0<=ti l/\ti l<256^l.length:=by have:=OB l 0 (by decide) h;rwa[Int.zero_add,Int.one_mul] at this
theorem acf {n c:Int} (h0:0<=n) (h1:n<72057594037927936) (h2:0<=c) (h3:c<=255):gr .or .u64 (n*2^8) c=n*256+c:=by
 have:=Go.Sp.yE (x:=c.toNat) (b:=n.toNat) (i:=8) (by omega) (by omega) (by omega);have e1:((n.toNat*2^8:Nat):Int)=n*2^8:=by omega
 have e2:((c.toNat:Nat):Int)=c:=by omega
 rw[e1,e2] at this;rw[this];omega
section
variable {O w:ao} {F:HP}
theorem acg {g:aJ} (hg:g.length=16) (hr:∀b∈g,0<=b/\b<=255) (h:V O F w): ae 303 #[an (gA g)] w λv w'=>v=ak #[ah ((vL g).getD 0),aC (vL g).isSome]/\V O F w':=by
 apply Wv;refine aG h λk1 w1 h1=>oI (by decide) (by decide) (by decide) ?_;have hs:=iO hg;have OD:(g.drop 8).length=8:=by rw[sc,hg]
 rw[if_neg (by decide)];refine⟨λn i w m=>∃j:Nat,i=j/\j<=8/\m=8- j/\n=ti ((g.drop 8).take j)/\V O (ab k1 (gA g) 30*F) w,⟨_,0,rfl,by decide,rfl,rfl,h1⟩,?_⟩;rintro u _ _ w2 m ⟨j,rfl,hj,rfl,rfl,h2⟩;have Je:=OC ((g.drop 8).take j) (λb hb=>hr b (sV (pU hb)));rw[fB,OD,Nat.min_eq_left hj] at Je;refine bU (λaQ=> ?_) (λbW=> ?_)
 .have IS:j<8:=by have:(j:Int)<((Int.toNat 16- Int.toNat 8:Nat):Int):=aQ;simp at this;omega
  have amn:(256:Int)^j<=72057594037927936:=by
   match j,IS with
   |0,_=>decide
   |1,_=>decide
   |2,_=>decide
   |3,_=>decide
   |4,_=>decide
   |5,_=>decide
   |6,_=>decide
   |7,_=>decide
  obtain⟨c,hc⟩:∃c,(g.drop 8)[j]?=some c:=⟨_,gm (by omega)⟩;have CP:=hr c (sV (dF hc));rw[qP] at hc;have ng:w2.cell? ((aD k1).add (8+j))=some (.int .u8 c):=aB h2 (by simp[gA,bc,hc]);refine⟨⟨by omega,aQ⟩,az (n:=c) (by
   have e:((j:Int).toNat*1)=j:=by omega
   rw[e];show w2.cell? (((aD k1).add 8).add j)=_;rw[Sp.jG];exact ng)<|yF (n:=8) Je.1 (by decide) (by omega)<|fx (by omega) (by omega)<|aY (by omega) (by omega) ⟨8- (j+1),by omega,j+1,by omega,by omega,rfl,?_,h2⟩⟩
  rw[acf Je.1 (by omega) CP.1 CP.2,fV,qP,hc];exact(ace _ _).symm
 .have e:j=8:=by have:¬(j:Int)<((Int.toNat 16- Int.toNat 8:Nat):Int):=bW;simp at this;omega
  subst e;rw[eW (by omega)];have h2:=h2.drew;refine bz h2 hs<|ay (IQ h2) ?_;rintro _ w3 ⟨rfl,h3⟩;refine nI<|IP h3<|AD rfl hg ?_;by_cases e:lA (ti (g.drop 8))=g
  .rw[decide_eq_true e];exact aw rfl ⟨by rw[vL,if_pos e];rfl,h3.right⟩
  .rw[decide_eq_false e];exact aW rfl ⟨by rw[vL,if_neg e];rfl,h3.right⟩
end
end Go.Proofs.YtjhnnnfnkjighaaGreatDoor
namespace Go.Sp
open Go.RowKit
structure oM (P:Program) (t k e:TypeId) {κ:Type} [DecidableEq κ] (kf:κ->Value) (S:κ->Prop):Prop where
 ht:P.underlying t=some (.map k e)
 pj:∀b x w,S x->(Instr.checkKey b 10000 k (kf x)).run P w=.ok () w
 eqv:∀x (l:List MapEntry) (ks:List κ) w,S x->(∀y∈ks,S y)->l.map (·.key)=ks.map kf->(Instr.findKey k (kf x) l).run P w=.ok (match ks.findIdx? (λy=>decide (y=x)) with|some i=>(l[i]?).map λe=>(i,e.val)|none=>none) w
 stays:∀x w,S x->(Instr.keyThatStays (kf x) (kf x)).run P w=.ok (kf x) w
def gR {κ ν:Type} [DecidableEq κ] (kf:κ->Value) (vf:ν->Value) (S:κ->Prop) (r:Nat) (f:κ->Option ν):HP:=ex λ(a:Array MapEntry)=>ex λ(ck:Nat)=>ex λ(m:List (κ×ν))=>
 bM ((m.map (·.1)).Nodup/\(∀p∈m,S p.1)/\(∀x,m.lookup x=f x)/\(a.toList.map (λe=>(e.key,e.val))=m.map λp=>(kf p.1,vf p.2))/\∀e∈a.toList,e.born<ck)*ob r (.map a ck)
theorem ach {κ ν:Type} {kf:κ->Value} {vf:ν->Value} {a:List MapEntry} {m:List (κ×ν)} (h:a.map (λe=>(e.key,e.val))=m.map λp=>(kf p.1,vf p.2)):a.map (·.key)=(m.map (·.1)).map kf:=by have:=congrArg (List.map Prod.fst) h;simpa[lq,Function.comp_def] using this
theorem FI {α β:Type} (g:α->β):∀(l:List α) (i:Nat),(l.eraseIdx i).map g=(l.map g).eraseIdx i
 |[],_=>by simp
 |x::l,0=>by simp
 |x::l,i+1=>by simp[FI g l i]
section
variable {κ ν:Type} [DecidableEq κ] {kf:κ->Value} {vf:ν->Value} {S:κ->Prop} {O w:World} {F:HP} {P:Program} {t k e:TypeId} {r:Nat} {f:κ->Option ν}
theorem xh (kf:κ->Value) (vf:ν->Value) (S:κ->Prop) {K:Nat->World->Prop} (h:V O F w) (hk:∀r w',V O (gR kf vf S r (λ_=>none)*F) w'->K r w'):uc w K:=by refine hk _ _ ?_;refine V.bO #[] (V.bO 0 (V.bO [] ?_));exact(((h.alloc (.map #[] 0)).eL (p:=((([]:List (κ×ν)).map (·.1)).Nodup/\(∀p∈([]:List (κ×ν)),S p.1)/\(∀x,([]:List (κ×ν)).lookup x=none)/\((#[]:Array MapEntry).toList.map (λe=>(e.key,e.val))=([]:List (κ×ν)).map λp=>(kf p.1,vf p.2))/\∀e∈(#[]:Array MapEntry).toList,e.born<0)) ⟨by simp,by simp,by simp,by simp,by simp⟩)).aF (by ac_rfl)
theorem gR.aK (h:V O (gR kf vf S r f*F) w):∃(a:Array MapEntry) (ck:Nat) (m:List (κ×ν)),((m.map (·.1)).Nodup/\(∀p∈m,S p.1)/\(∀x,m.lookup x=f x)/\(a.toList.map (λe=>(e.key,e.val))=m.map λp=>(kf p.1,vf p.2))/\∀e∈a.toList,e.born<ck)/\V O (ob r (.map a ck)*F) w:=by obtain⟨a,h⟩:=V.ex h;obtain⟨ck,h⟩:=V.ex h;obtain⟨m,h⟩:=V.ex h;have h:=h.aF (B:=bM _*(ob r (.map a ck)*F)) (vC _ _ _);exact⟨a,ck,m,h.bM,h.right⟩
theorem gR.aI {a:Array MapEntry} {ck:Nat} {m:List (κ×ν)} (hm:(m.map (·.1)).Nodup/\(∀p∈m,S p.1)/\(∀x,m.lookup x=f x)/\(a.toList.map (λe=>(e.key,e.val))=m.map λp=>(kf p.1,vf p.2))/\∀e∈a.toList,e.born<ck) (h:V O (ob r (.map a ck)*F) w):V O (gR kf vf S r f*F) w:=V.bO a (V.bO ck (V.bO m ((h.eL hm).g1)))
theorem aci (m:List (κ×ν)) (x:κ):(match(m.map (·.1)).findIdx? (λy=>decide (y=x)) with|some i=>(m[i]?).map (·.2)|none=>none)=m.lookup x:=by
 induction m with
 |nil=>rfl
 |cons p m ih=>
  obtain⟨y,v⟩:=p;by_cases h:y=x
  .subst h;simp[zP,List.lookup]
  .rw[jo,zP];simp only[h,decide_false,lS,if_false];rw[List.lookup];have:(x==y)=false:=by simpa using λe=>h e.symm
   rw[this,<-ih];cases(m.map (·.1)).findIdx? λy=>decide (y=x) with
   |none=>rfl
   |some i=>simp
theorem Jf (T:oM P t k e kf S) {a:List MapEntry} {m:List (κ×ν)} (hS:∀p∈m,S p.1) (h:a.map (λe=>(e.key,e.val))=m.map λp=>(kf p.1,vf p.2)) {x:κ} (hx:S x) (w:World): ((m.lookup x=none/\(m.map (·.1)).findIdx? (λy=>decide (y=x))=none/\(Instr.findKey k (kf x) a).run P w=.ok none w)\/ ∃i v,m.lookup x=some v/\m[i]?=some (x,v)/\(m.map (·.1)).findIdx? (λy=>decide (y=x))=some i/\(Instr.findKey k (kf x) a).run P w=.ok (some (i,vf v)) w):=by
 have hr:=T.eqv x a (m.map (·.1)) w hx (by simpa using hS) (ach h);have hl:=aci m x;cases hf:(m.map (·.1)).findIdx? (λy=>decide (y=x)) with
 |none=>rw[hf] at hr hl;exact .inl ⟨hl.symm,rfl,hr⟩
 |some i=>
  rw[hf] at hr hl;right;rw[H4] at hf;obtain⟨hi,he,_⟩:=hf;have uB:i<m.length:=by simpa using hi
  have he:m[i].1=x:=by simpa using he
  have Jg:m[i]?=some (x,m[i].2):=by rw[gm uB,<-he]
  refine⟨i,m[i].2,?_,Jg,rfl,?_⟩
  .rw[<-hl];show(m[i]?).map (·.2)=_;rw[Jg];rfl
  .rw[hr];have h2:=congrArg (λl=>l[i]?) h;simp only[eZ,Jg,qR] at h2;obtain⟨en,Jh,e2⟩:=dd.1 h2;simp only[Prod.mk.injEq] at e2;simp[Jh,e2.2]
theorem xi {a:Array MapEntry} {ck:Nat} (h:w.heap[r]?=some (.map a ck)):(getObj r).run P w=.ok (.map a ck) w:=by simp[getObj,Sem.run,h]
theorem FJ {a:Array MapEntry} {ck:Nat} {o:Obj} (h:w.heap[r]?=some (.map a ck)):(setObj r o).run P w=.ok () (w.putObj r o):=by simp[setObj,Sem.run,h,World.putObj]
theorem xj (T:oM P t k e kf S) {x:κ} {z:Value} {K:Value->Prop} (h:V O (gR kf vf S r f*F) w) (hx:S x) (hz:(zeroValue e).run P w=.ok z w) {ok:Bool} (hk:K (if ok then .tuple #[(match f x with|some v=>vf v|none=>z),.bool (f x).isSome] else(match f x with|some v=>vf v|none=>z))):nG P t (some r) (kf x) ok w K:=by
 obtain⟨a,ck,m,⟨fm,hS,hm,ha,yL⟩,h2⟩:=gR.aK h;have hb:=h2.ob;refine⟨_,?_,hk⟩;rcases Jf T hS ha hx w with⟨hl,_,hr⟩|⟨i,v,hl,hi,_,hr⟩
 .rw[hm] at hl;simp[Instr.lookup,run_underlying T.ht,xi hb,T.pj _ _ _ hx,hr,hz,hl]
 .rw[hm] at hl;simp[Instr.lookup,run_underlying T.ht,xi hb,T.pj _ _ _ hx,hr,hl]
def fg (f:κ->Option ν) (x:κ) (v:Option ν):κ->Option ν:=λy=>if y=x then v else f y
theorem acj {m:List (κ×ν)} {x:κ} {v:ν} (h:m.lookup x=none) (y:κ):(m++[(x,v)]).lookup y=if y=x then some v else m.lookup y:=by
 induction m with
 |nil=>
  by_cases e:y=x
  .subst e;simp[List.lookup]
  .have:(y==x)=false:=by simpa using e
   simp[List.lookup,this,e]
 |cons p m ih=>
  obtain⟨q,u⟩:=p;rw[pX,List.lookup,List.lookup];rw[List.lookup] at h;cases hq:(x==q) with
  |true=>rw[hq] at h;cases h
  |false=>
   rw[hq] at h;cases hy:(y==q) with
   |true=>
    have:y=q:=by simpa using hy
    subst this;have:y≠x:=λe=>by subst e;simp at hq
    simp[this]
   |false=>exact ih h
theorem ack {m:List (κ×ν)} {x:κ} (h:m.lookup x=none):x∉m.map (·.1):=by
 induction m with
 |nil=>simp
 |cons p m ih=>
  obtain⟨q,u⟩:=p;rw[List.lookup] at h;cases hq:(x==q) with
  |true=>rw[hq] at h;cases h
  |false=>
   rw[hq] at h;have:x≠q:=by simpa using hq
   simp[this];simpa using ih h
theorem acm {m:List (κ×ν)} {i:Nat} {x:κ} {v v':ν} (fm:(m.map (·.1)).Nodup) (hi:m[i]?=some (x,v)) (y:κ):(m.set i (x,v')).lookup y=if y=x then some v' else m.lookup y:=by
 induction m generalizing i with
 |nil=>simp at hi
 |cons p m ih=>
  obtain⟨q,u⟩:=p;rw[jo,vq] at fm;cases i with
  |zero=>
   simp at hi;obtain⟨rfl,rfl⟩:=hi;rw[Cd,List.lookup,List.lookup];cases hy:(y==q) with
   |true=>simp[show y=q by simpa using hy]
   |false=>simp[show y≠q by simpa using hy]
  |succ i=>
   rw[zO,List.lookup,List.lookup];have hi:m[i]?=some (x,v):=by simpa using hi
   cases hy:(y==q) with
   |true=>
    have:y=q:=by simpa using hy
    subst this;have:y≠x:=λe=>fm.1 (fC.2 ⟨(x,v),dF hi,e.symm⟩);simp[this]
   |false=>exact ih fm.2 hi
theorem acn {m:List (κ×ν)} {i:Nat} {x:κ} {v:ν} (fm:(m.map (·.1)).Nodup) (hi:m[i]?=some (x,v)) (y:κ):(m.eraseIdx i).lookup y=if y=x then none else m.lookup y:=by
 induction m generalizing i with
 |nil=>simp at hi
 |cons p m ih=>
  obtain⟨q,u⟩:=p;rw[jo,vq] at fm;cases i with
  |zero=>
   simp at hi;obtain⟨rfl,rfl⟩:=hi;rw[List.eraseIdx_cons_zero,List.lookup];cases hy:(y==q) with
   |true=>
    have:y=q:=by simpa using hy
    subst this;simp only[if_true];cases hl:m.lookup y with
    |none=>rfl
    |some u'=>
     exfalso;have:∀(l:List (κ×ν)),l.lookup y=some u'->y∈l.map (·.1):=by
      intro l;induction l with
      |nil=>intro h;cases h
      |cons p l ih=>
       obtain⟨a,b⟩:=p;intro h;rw[List.lookup] at h;cases ha:(y==a) with
       |true=>simp[show y=a by simpa using ha]
       |false=>rw[ha] at h;exact List.mem_cons_of_mem _ (ih h)
     exact fm.1 (this m hl)
   |false=>simp[show y≠q by simpa using hy]
  |succ i=>
   rw[B4,List.lookup,List.lookup];have hi:m[i]?=some (x,v):=by simpa using hi
   cases hy:(y==q) with
   |true=>
    have:y=q:=by simpa using hy
    subst this;have:y≠x:=λe=>fm.1 (fC.2 ⟨(x,v),dF hi,e.symm⟩);simp[this]
   |false=>exact ih fm.2 hi
theorem xk (T:oM P t k e kf S) {x:κ} {v:ν} {K:World->Prop} (h:V O (gR kf vf S r f*F) w) (hx:S x) (hk:∀w',V O (gR kf vf S r (fg f x (some v))*F) w'->K w'):qU P t (some r) (kf x) (vf v) w K:=by
 obtain⟨a,ck,m,⟨fm,hS,hm,ha,yL⟩,h2⟩:=gR.aK h;have hb:=h2.ob;rcases Jf T hS ha hx w with⟨hl,_,hr⟩|⟨i,u,hl,hi,_,hr⟩
 .refine⟨_,?_,hk _ (gR.aI (m:=m++[(x,v)]) ⟨?_,?_,?_,?_,?_⟩ (h2.putObj (.map (a.push {key:=kf x,val:=vf v,born:=ck}) (ck+1))))⟩
  .simp[Instr.mapUpdate,run_underlying T.ht,xi hb,T.pj _ _ _ hx,hr,FJ hb]
  .rw[nF,sb];refine⟨fm,by simp,λp hp q hq e=> ?_⟩;simp at hq;subst hq;subst e;exact ack hl hp
  .intro p hp;rcases fj.1 hp with hp|hp
   .exact hS p hp
   .rw[mL] at hp;subst hp;exact hx
  .intro y;rw[acj hl,fg,hm]
  .simp[ha]
  .intro e he;rw[Array.toList_push,fj,mL] at he;rcases he with he|rfl
   .exact Nat.lt_succ_of_lt (yL e he)
   .exact Nat.lt_succ_self _
 .have OE:(a.toList)[i]?=some ⟨kf x,vf u,((a.toList)[i]?.map (·.born)).getD 0⟩:=by have h3:=congrArg (λl=>l[i]?) ha;simp only[eZ,hi,qR] at h3;obtain⟨en,Jh,e2⟩:=dd.1 h3;rw[Jh];simp only[Prod.mk.injEq] at e2;cases en;simp at e2;simp[e2]
  have hak:(a[i]?.map (·.key)).getD (kf x)=kf x:=by rw[<-zL,OE];rfl
  refine⟨_,?_,hk _ (gR.aI (m:=m.set i (x,v)) ⟨?_,?_,?_,?_,?_⟩ (h2.putObj (.map (a.modify i λe=>{e with key:=kf x,val:=vf v}) ck)))⟩
  .simp only[Instr.mapUpdate,Sem.run_bind,run_underlying T.ht,xi hb,T.pj _ _ _ hx,hr,Result.andThen_ok,hak,T.stays _ _ hx,FJ hb]
  .have e:(m.set i (x,v)).map (·.1)=m.map (·.1):=by
    rw[wK];apply qQ;intro j;rw[jR];split
    .rename_i e;subst e;rw[eZ,hi,if_pos (by simpa using(ct.1 hi).1)];rfl
    .rfl
   rw[e];exact fm
  .intro p hp;rcases pS hp with hp|rfl
   .exact hS p hp
   .exact hx
  .intro y;rw[acm fm hi,fg,hm]
  .apply qQ;intro j;have h3:=congrArg (λl=>l[j]?) ha;simp only[eZ] at h3;simp only[eZ,zL,Array.getElem?_modify,jR] at h3 ⊢;by_cases e:i=j
   .subst e;have aQ:=(ct.1 hi).1;rw[<-zL,OE];simp[aQ]
   .simp only[e,if_false];exact h3
  .intro e he;obtain⟨j,hj⟩:=sa.1 he;rw[zL,Array.getElem?_modify] at hj;split at hj
   .obtain⟨e0,xl,rfl⟩:=dd.1 hj;exact yL e0 (by rw[<-zL] at xl;exact dF xl)
   .rw[<-zL] at hj;exact yL e (dF hj)
theorem Ji (T:oM P t k e kf S) {x:κ} {ts:Array TypeId} {ty:TypeId} (OF:ts[0]?=some t) {K:World->Prop} (h:V O (gR kf vf S r f*F) w) (hx:S x) (hk:∀w',V O (gR kf vf S r (fg f x none)*F) w'->K w'):zZ P ts ty (some r) (kf x) w K:=by
 obtain⟨a,ck,m,⟨fm,hS,hm,ha,yL⟩,h2⟩:=gR.aK h;have hb:=h2.ob;rcases Jf T hS ha hx w with⟨hl,_,hr⟩|⟨i,u,hl,hi,_,hr⟩
 .refine⟨_,?_,hk _ (gR.aI (m:=m) ⟨fm,hS,?_,ha,yL⟩ (h2.putObj (.map a ck)))⟩
  .simp[Builtin.delete_,OF,run_underlying T.ht,xi hb,T.pj _ _ _ hx,hr,FJ hb]
  .intro y;rw[hm,fg];split
   .rename_i e;subst e;rw[<-hm];exact hl
   .rfl
 .refine⟨_,?_,hk _ (gR.aI (m:=m.eraseIdx i) ⟨?_,?_,?_,?_,?_⟩ (h2.putObj (.map (a.eraseIdxIfInBounds i) ck)))⟩
  .simp[Builtin.delete_,OF,run_underlying T.ht,xi hb,T.pj _ _ _ hx,hr,FJ hb]
  .rw[FI];exact fm.sublist (List.eraseIdx_sublist _ _)
  .exact λp hp=>hS p (H7 hp)
  .intro y;rw[acn fm hi,fg,hm]
  .have e:(a.eraseIdxIfInBounds i).toList=a.toList.eraseIdx i:=by have aQ:=(ct.1 hi).1;have eB:=congrArg List.length ha;simp at eB;simp[Array.eraseIdxIfInBounds,show i<a.size by omega]
   rw[e,FI,ha,FI]
  .have e:(a.eraseIdxIfInBounds i).toList=a.toList.eraseIdx i:=by have aQ:=(ct.1 hi).1;have eB:=congrArg List.length ha;simp at eB;simp[Array.eraseIdxIfInBounds,show i<a.size by omega]
   intro x hx;rw[e] at hx;exact yL x (H7 hx)
end
theorem AE {P:Program} {t k e:TypeId} {q:IntKind} (ht:P.underlying t=some (.map k e)) (hk:P.underlying k=some (.int q)):oM P t k e (λx:Int=>Value.int q x) (λ_=>True):=by
 refine⟨ht,λb x w _=> ?_,λx l ks w _ _ h=> ?_,λx w _=> ?_⟩
 .obtain⟨n,hn⟩:∃n,10000=n+1:=⟨9999,rfl⟩;rw[hn];simp[Instr.checkKey,run_underlying hk]
 .have key:∀(l:List MapEntry) (ks:List Int) (j:Nat),l.map (·.key)=ks.map (λx=>Value.int q x)->Instr.findNow (.int q) (.int q x) l j=some (match ks.findIdx? (λy=>decide (y=x)) with|some i=>(l[i]?).map λe=>(i+j,e.val)|none=>none):=by
   intro l;induction l with
   |nil=>
    intro ks j h;have:ks=[]:=by simpa using h.symm
    subst this;rfl
   |cons en l ih=>
    intro ks j h;cases ks with
    |nil=>simp at h
    |cons y ks=>
     simp only[jo,List.cons.injEq] at h;rw[Instr.findNow,h.1];simp only[Instr.sameNow,if_true];rw[zP];by_cases e:y=x
     .subst e;simp
     .have e1:(x==y)=false:=by simpa using λh=>e h.symm
      simp only[e1,e,decide_false,lS,if_false];rw[ih ks (j+1) h.2];cases ks.findIdx? λy=>decide (y=x) with
      |none=>rfl
      |some i=>simp[Nat.add_assoc,Nat.add_comm 1 j]
  simp only[Instr.findKey,Sem.run_bind,run_underlying hk,Result.andThen_ok,key l ks 0 h,sZ,Sem.run_pure]
 .obtain⟨n,hn⟩:∃n,10000=n+1:=⟨9999,rfl⟩;have:Instr.sameBits 10000 (.int q x) (.int q x)=true:=by rw[hn];simp[Instr.sameBits]
  simp[Instr.keyThatStays,this]
end Go.Sp
namespace Go.Proofs.YtjhnnnfnkjighaaGreatDoor
open Go.Sp Go.RowKit
section
variable {O w:ao} {F:HP} {x:PK} {p:av} {l c:Nat}
theorem OG (n:Int):kN au 332 #[aa n] (aC (decide (0<=n/\n<=3))):=by
 intro w;apply YU;refine bU (λh=>⟨?_,rfl⟩) (λh=>⟨?_,rfl⟩)
 .congr 1;rw[sX];simp;omega
 .rw[decide_eq_false (by omega)]
def tj (x:PK):PK:={x with kd:=0,fr:=0,to:=0,sq:=0}
theorem tk {x:PK} {v:Value} {i:Nat} (h:i<5):i<(bC x v).size:=by simp[bC,jI];omega
theorem tl {x:PK} {v u:Value} (i:Nat) (hi:i<5):(bC x v).setIfInBounds i u=(([aa x.kd,aa x.fr,aa x.to,ah x.sq,ah x.cl]:dB).set i u++(bc x.ip++mv x v)).toArray:=by apply cT;rw[rZ];show(jI x v).set i u=_;rw[jI,List.set_append_left _ _ (by simpa using hi)]
theorem yM {x:PK} {v u:Value} (hx:x.ip.length=16) (j:Nat):(bC x v).setIfInBounds (21+j) u=(([aa x.kd,aa x.fr,aa x.to,ah x.sq,ah x.cl]:dB)++(bc x.ip++(mv x v).set j u)).toArray:=by apply cT;rw[rZ];show(jI x v).set (21+j) u=_;rw[jI,lp _ _ (by simp;omega),lp _ _ (by simp[dh,hx];omega)];congr 3;simp[dh,hx];omega
theorem acp (h:V O F w) (hx:x.ip.length=16):ae 381 #[an (bC x (af p l c))] w λv w'=>v=an (bC (tj x) (af p l c))/\V O F w':=by apply YW;refine aG h λk1 w1 h1=>aG h1 λk2 w2 h2=> ?_;have h3:=h2.aF (B:=ab k1 (bC x (af p l c)) 150*(ab k2 (bC dX aP) 150*F)) (by show ab k2 (bC dX aP) _*(ab k1 (bC x (af p l c)) _*F)=_;ac_rfl);have sz:=jc (x:=x) (v:=af p l c) hx;refine bD (i:=0) h3 (tk (by decide)) λw3 h3=> ?_;rw[tl 0 (by omega)] at h3;have h3:V O (ab k1 (bC {x with kd:=0} (af p l c)) 150*(ab k2 (bC dX aP) 150*F)) w3:=h3;refine bD (i:=1) h3 (tk (by decide)) λw4 h4=> ?_;rw[tl 1 (by omega)] at h4;have h4:V O (ab k1 (bC {x with kd:=0,fr:=0} (af p l c)) 150*(ab k2 (bC dX aP) 150*F)) w4:=h4;refine bD (i:=2) h4 (tk (by decide)) λw5 h5=> ?_;rw[tl 2 (by omega)] at h5;have h5:V O (ab k1 (bC {x with kd:=0,fr:=0,to:=0} (af p l c)) 150*(ab k2 (bC dX aP) 150*F)) w5:=h5;refine bD (i:=3) h5 (tk (by decide)) λw6 h6=> ?_;rw[tl 3 (by omega)] at h6;have h6:V O (ab k1 (bC (tj x) (af p l c)) 150*(ab k2 (bC dX aP) 150*F)) w6:=h6;refine mw h6 hx<|bL h6.p1 (jc rfl) (jc hx) yJ λw7 h7=>mw h7 hx ⟨rfl,h7.right.right⟩
end
section
variable {O w:ao} {F:HP} {x:PK} {p:av} {l c:Nat} {k:Nat} {t:TypeId} {v:Value}
theorem acq {q:aJ} {K:ao->Prop} (h:V O (ab k (bC x v) t*F) w) (hx:x.ip.length=16) (hq:q.length=16) (hk:∀w',V O (ab k (bC {x with ip:=q} v) t*F) w'->K w'):aS au ((aD k).add 5) 16 (bc q).toArray w K:=by
 refine As h (by rw[jc hx];decide) (by simp[dh,hq]) (by simpa using jt q) λw' h'=>hk w' ?_;have e:((bC x v).toList.take 5++(bc q).toArray.toList++(bC x v).toList.drop (5+16)).toArray=bC {x with ip:=q} v:=by apply cT;show(jI x v).take 5++bc q++(jI x v).drop (5+16)=jI {x with ip:=q} v;unfold jI;rw[qS (by rfl),<-iy,<-iy,Ci (by simp[dh,hx])];rfl
 rw[e] at h';exact h'
theorem Jj (hx:x.ip.length=16) {i:Nat} (h:i<25):i<(bC x v).size:=by rw[jc hx];exact h
def mS (x:PK):Prop:=
 (x.kd=1/\x.rs.length<=1/\(∀r∈x.rs,i9 r.1=true)/\0<=x.md/\x.md<=7/\x.cd=0)\/
 (x.kd=2/\x.ip=dW/\x.md=0/\x.rs=[]/\0<=x.cd/\x.cd<=20)\/
 ((x.kd=3\/x.kd=4)/\x.cl=0/\x.md=0/\x.cd=0/\x.rs=[]/\1<=x.n/\x.n<=4294967295)\/
 (x.kd=5/\x.cl=0/\x.ip=dW/\x.md=0/\x.cd=0/\x.n=0/\x.rs=[])
instance (x:PK):Decidable (mS x):=by unfold mS;infer_instance
theorem acr (h:V O F w) (hx:jb x) (gx:bd F 36 p l (x.rs.flatMap cS)) (hl:l<=4611686018427387904): ae 333 #[an (bC x (af p l c))] w λv w'=>v=aC (decide (mS x))/\V O F w':=by
 apply YV;refine aG h λk1 w1 h1=>mw h1 hx.ip<|ay (acp h1 hx.ip) ?_;rintro _ w2 ⟨rfl,h2⟩;refine nI<|aG h2 λk5 w3 h3=>bL h3 rfl (jc hx.ip) yJ λw4 h4=> ?_;have h4:V O (ab k5 (bC (tj x) (af p l c)) 150*(ab k1 (bC x (af p l c)) 150*F)) w4:=h4;have el:=FH (gx _ _ h);have amo:x.rs=[]↔l=0:=by rw[<-List.length_eq_zero_iff];omega
 have no:∀{w},V O F w->¬mS x->aC false=aC (decide (mS x))/\V O F w:=λh hn=>⟨by rw[decide_eq_false hn],h⟩;have yes:∀{w} {b:Bool},V O F w->(b=true↔mS x)->aC b=aC (decide (mS x))/\V O F w:=λh hb=>⟨by congr 1;rw[sX];simpa using hb,h⟩;have c1:∀{w:ao} {A:HP} {v:Value},V O (A*(ab k1 (bC x (af p l c)) 150*F)) w->∀i,(bC x (af p l c))[i]?=some v->w.cell? ((aD k1).add i)=some v:=λh i e=>aB h.right e;have t1:∀{w:ao} {A:HP} {v:Value},V O (A*(ab k1 (bC x (af p l c)) 150*F)) w->∀j,(mv x (af p l c))[j]?=some v->w.cell? ((aD k1).add (21+j))=some v:=λh j e=>FF h.right hx.ip j e;have fin:∀{w:ao} {y:PK} {q:av} {m d:Nat},V O (ab k5 (bC y (af q m d)) 150*(ab k1 (bC x (af p l c)) 150*F)) w->y.ip.length=16->bd F 36 q m (y.rs.flatMap cS)->m<=4611686018427387904->(y=dX↔mS x)->aA (aD k5) 25 w λg=>ae 382 #[an g,an (bC dX aP)] w λv w'=>cX v λb=>aC b=aC (decide (mS x))/\V O F w':=by intro w y q m d h hy gy hm uz;refine mw h hy<|ay (acd (y:=dX) h hy rfl (bd.right (bd.right gy)) (bd.nil _ _ _) hm) ?_;rintro _ w' ⟨rfl,h'⟩;exact cR<|yes h'.right.right (by simpa using uz)
 refine az (c1 h4 0 rfl)<|cy (λAF=> ?_) (λAF=> ?_)
 .have AF:x.kd=1:=by simpa using AF
  have base:mS x↔x.rs.length<=1/\(∀r∈x.rs,i9 r.1=true)/\0<=x.md/\x.md<=7/\x.cd=0:=by
   unfold mS;constructor
   .rintro(h|h|h|h)
    .exact h.2
    .omega
    .omega
    .omega
   .exact λh=>.inl ⟨AF,h⟩
  refine az (t1 h4 0 rfl)<|bU (λh0=>no h4.right.right (by rw[base];omega)) (λm0=> ?_);refine az (t1 h4 0 rfl)<|bU (λh0=>no h4.right.right (by rw[base];omega)) (λm1=> ?_);refine aN (t1 h4 3 rfl)<|bU (λh0=>no h4.right.right (by rw[base];omega)) (λb1=>aN (t1 h4 3 rfl)<|cy (λb2=> ?_) (λb2=> ?_))
  .have b2:(l:Int)=1:=by simpa using b2
   have g:=gx _ _ h4.right.right;obtain⟨r,hr⟩:∃r,x.rs=[r]:=List.length_eq_one_iff.1 (by omega);have hri:x.rs[(0:Int).toNat]?=some r:=by rw[hr];rfl
   refine aN (t1 h4 3 rfl)<|fM g (by omega) (by omega) λa ha=>FG g ha hri<|ay (At h4 r.2) ?_;rintro _ w5 ⟨rfl,h5⟩;have lU:(∀q∈x.rs,i9 q.1=true)↔i9 r.1=true:=by rw[hr];simp
   refine bI<|cy (λhb=>no h5.right.right (by rw[base,lU];intro h;rw[h.2.1] at hb;simp at hb)) (λhb=> ?_);have hb:i9 r.1=true:=by
    cases hq:i9 r.1
    .rw[hq] at hb;simp at hb
    .rfl
   refine az (t1 h5 2 rfl)<|bL h5 (jc hx.ip) rfl (by simp[Value.oneCell']) λw6 h6=>fin (y:={dX with cd:=x.cd}) (q:=none) (m:=0) (d:=0) h6 rfl (bd.nil _ _ _) (by decide) ?_;rw[base,lU,yK];simp[dX,hb,hr];omega
  .have b2:¬(l:Int)=1:=by simpa using b2
   have hr:x.rs=[]:=m5 (by omega);refine az (t1 h4 2 rfl)<|bL h4 (jc hx.ip) rfl (by simp[Value.oneCell']) λw6 h6=>fin (y:={dX with cd:=x.cd}) (q:=none) (m:=0) (d:=0) h6 rfl (bd.nil _ _ _) (by decide) ?_;rw[base,yK];simp[dX,hr];omega
 have AF:x.kd≠1:=by simpa using AF
 refine cy (λk2=> ?_) (λk2=> ?_)
 .have k2:x.kd=2:=by simpa using k2
  have base:mS x↔x.ip=dW/\x.md=0/\x.rs=[]/\0<=x.cd/\x.cd<=20:=by
   unfold mS;constructor
   .rintro(h|h|h|h)
    .omega
    .exact h.2
    .omega
    .omega
   .exact λh=>.inr (.inl ⟨k2,h⟩)
  refine az (t1 h4 2 rfl)<|bU (λh0=>no h4.right.right (by rw[base];omega)) (λm0=> ?_);refine az (t1 h4 2 rfl)<|bU (λh0=>no h4.right.right (by rw[base];omega)) (λm1=> ?_);refine bD (i:=4) h4 (tk (by decide)) λw5 h5=> ?_;rw[tl 4 (by omega)] at h5;have h5:V O (ab k5 (bC {tj x with cl:=0} (af p l c)) 150*(ab k1 (bC x (af p l c)) 150*F)) w5:=h5;refine bD (i:=23) h5 (Jj (i:=23) (by exact hx.ip) (by decide)) λw6 h6=> ?_;rw[show 23=21+2 from rfl,yM (by exact hx.ip)] at h6;have h6:V O (ab k5 (bC {tj x with cl:=0,cd:=0} (af p l c)) 150*(ab k1 (bC x (af p l c)) 150*F)) w6:=h6;refine bD (i:=22) h6 (Jj (i:=22) (by exact hx.ip) (by decide)) λw7 h7=> ?_;rw[show 22=21+1 from rfl,yM (by exact hx.ip)] at h7;refine fin (y:={tj x with cl:=0,cd:=0,n:=0}) h7 hx.ip gx hl ?_;rw[base,yK];simp[dX,tj];omega
 have k2:x.kd≠2:=by simpa using k2
 refine⟨λb w=>(b=true↔x.kd=3\/x.kd=4)/\w=w4,?_,?_⟩
 .refine cy (λh=>⟨?_,rfl⟩) (λh=>⟨?_,rfl⟩)
  .simp at h ⊢;omega
  .simp at h ⊢;omega
 rintro u b w5 ⟨hb,rfl⟩;refine cy (λk3=> ?_) (λk3=> ?_)
 .have k3:=hb.1 k3;have base:mS x↔x.cl=0/\x.md=0/\x.cd=0/\x.rs=[]/\1<=x.n/\x.n<=4294967295:=by
   unfold mS;constructor
   .rintro(h|h|h|h)
    .omega
    .omega
    .exact h.2
    .omega
   .exact λh=>.inr (.inr (.inl ⟨k3,h⟩))
  refine az (t1 h4 1 rfl)<|bU (λh0=>no h4.right.right (by rw[base];omega)) (λm0=> ?_);refine az (t1 h4 1 rfl)<|bU (λh0=>no h4.right.right (by rw[base];omega)) (λm1=> ?_);refine acq (q:=dW) h4 hx.ip rfl λw6 h6=> ?_;refine bD (i:=22) h6 (Jj (i:=22) (by rfl) (by decide)) λw7 h7=> ?_;rw[show 22=21+1 from rfl,yM (by rfl)] at h7;refine fin (y:={tj x with ip:=dW,n:=0}) h7 rfl gx hl ?_;rw[base,yK];simp[dX,tj];omega
 have k3:¬(x.kd=3\/x.kd=4):=λh=>by rw[hb.2 h] at k3;cases k3
 refine cy (λAG=> ?_) (λAG=> ?_)
 .have AG:x.kd=5:=by simpa using AG
  refine fin (y:=tj x) h4 hx.ip gx hl ?_;unfold mS;rw[yK];constructor<;>intro h<;>simp[dX,tj,AG] at h ⊢<;>grind
 .have AG:x.kd≠5:=by simpa using AG
  exact no h4.right.right (by unfold mS;omega)
theorem OI (h:V O F w) (hx:jb x) (gx:bd F 36 p l (x.rs.flatMap cS)) (hl:l<=4611686018427387904): ae 259 #[an (bC x (af p l c))] w λv w'=>v=aa (if iF x then 0 else 5)/\V O F w':=by
 apply YK;refine aG h λk1 w1 h1=> ?_;have base:iF x↔(0<=x.fr/\x.fr<=3)/\(0<=x.to/\x.to<=3)/\x.fr≠x.to/\mS x:=by
  unfold iF mS;constructor
  .rintro⟨a,b,c,d,e,f⟩;exact⟨⟨a,b⟩,⟨c,d⟩,e,f⟩
  .rintro⟨⟨a,b⟩,⟨c,d⟩,e,f⟩;exact⟨a,b,c,d,e,f⟩
 have no:∀{w},V O F w->¬iF x->aa 5=aa (if iF x then 0 else 5)/\V O F w:=λh hn=>⟨by rw[if_neg hn],h⟩;refine az (aB h1 (i:=1) rfl)<|fY (OG _)<|cR<|cy (λhn=>no h1.right (by rw[base];intro h;simp[h.1] at hn)) (λa1=> ?_);refine az (aB h1 (i:=2) rfl)<|fY (OG _)<|cR<|cy (λhn=>no h1.right (by rw[base];intro h;simp[h.2.1] at hn)) (λa2=> ?_);refine az (aB h1 (i:=1) rfl)<|az (aB h1 (i:=2) rfl)<|cy (λhn=>no h1.right (by rw[base];intro h;simp[h.2.2.1] at hn)) (λa3=> ?_);refine mw h1 hx.ip<|ay (acr h1 hx (bd.right gx) hl) ?_;rintro _ w2 ⟨rfl,h2⟩;refine cR<|cy (λhn=>no h2.right (by rw[base];intro h;simp[h.2.2.2] at hn)) (λa4=>⟨?_,h2.right⟩);simp at a1 a2 a3 a4;rw[if_pos (base.2 ⟨a1,a2,a3,a4⟩)]
end
def dM (fs:List (Int×Int)) (bs:aJ):aJ:=fs.foldl (λbs f=>bs++lC bs.length f.1 f.2) bs
theorem acu (fs gs:List (Int×Int)) (bs:aJ):dM (fs++gs) bs=dM gs (dM fs bs):=by simp[dM]
theorem Jk (fs:List (Int×Int)) (f:Int×Int) (bs:aJ):dM (fs++[f]) bs=dM fs bs++lC (dM fs bs).length f.1 f.2:=by simp[dM]
structure Fs (fs:List (Int×Int)) (k:Nat):Prop where
 len:fs.length<=k
 vM:∀f∈fs,rj f.2=true
 fN:∀f∈fs,0<=f.1/\f.1<256^f.2.toNat
theorem Fs.nil:Fs [] 0:=⟨by simp,by simp,by simp⟩
theorem Fs.qp {fs:List (Int×Int)} {k:Nat} {n s:Int} (h:Fs fs k) (hf:rj s=true) (h0:0<=n) (h1:n<256^s.toNat):Fs (fs++[(n,s)]) (k+1):=by
 refine⟨by have:=h.len;simp;omega,λf hm=> ?_,λf hm=> ?_⟩
 .rcases fj.1 hm with hm|hm
  .exact h.vM f hm
  .simp at hm;subst hm;exact hf
 .rcases fj.1 hm with hm|hm
  .exact h.fN f hm
  .simp at hm;subst hm;exact⟨h0,h1⟩
theorem Fs.mono {fs:List (Int×Int)} {k m:Nat} (h:Fs fs k) (hm:k<=m):Fs fs m:=⟨Nat.le_trans h.len hm,h.vM,h.fN⟩
theorem Fs.bytes {fs:List (Int×Int)} {k:Nat} (h:Fs fs k) {bs:aJ} (hb:∀b∈bs,0<=b/\b<=255):Fs (fs++bs.map (·,1)) (k+bs.length):=by
 refine⟨by have:=h.len;simp;omega,λf hm=> ?_,λf hm=> ?_⟩
 .rcases fj.1 hm with hm|hm
  .exact h.vM f hm
  .obtain⟨b,_,rfl⟩:=fC.1 hm;rfl
 .rcases fj.1 hm with hm|hm
  .exact h.fN f hm
  .obtain⟨b,hbm,rfl⟩:=fC.1 hm;have:=hb b hbm;exact⟨this.1,by show b<256;omega⟩
theorem acw {fs:List (Int×Int)} (h:∀f∈fs,rj f.2=true) (bs:aJ):(dM fs bs).length<=bs.length+16*fs.length:=by
 induction fs generalizing bs with
 |nil=>simp[dM]
 |cons f fs ih=>have hf:=h f (.head _);have:=ih (λg hg=>h g (.tail _ hg)) (bs++lC bs.length f.1 f.2);have hp:=Fz hf;have hg:=Fy (a:=(bs.length:Int)) hp.1;rw[gp,IT _ _ _ hp.1] at this;show(dM fs (bs++lC bs.length f.1 f.2)).length<=_;rw[iB];omega
theorem Fs.Jl {fs:List (Int×Int)} (h:Fs fs 30):(dM fs []).length<=480:=by have:=acw h.vM [];have:=h.len;simp at*;omega
def un (n:Int):Int:=n%18446744073709551616
theorem acx (n:Int):0<=un n/\un n<=18446744073709551615:=by unfold un;omega
theorem acy {e:Int} {K:Int->Prop} (hk:K (un e)):arith .u64 e K:=by
 unfold arith;have:IntKind.wrap .u64 e=un e:=by simp only[IntKind.wrap,IntKind.signed,IntKind.bits,un];simp
 rw[this];exact hk
def CQ (k:Int):Bool:=k==1||k==2
def rn (k:Int):Bool:=k==1||k==3||k==4
def nB (k:Int):Bool:=k==1||k==2||k==3||k==4
theorem OJ (k:Int):kN au 243 #[aa k] (ak #[aC (CQ k),aC (rn k),aC (k==1),aC (k==2),aC (nB k),aC (k==1)]):=by
 intro w;apply YH;unfold CQ rn nB;refine cy (λh1=> ?_) (λh1=>cy (λh2=> ?_) (λh2=>cy (λh3=>cy (λ_=> ?_) (λh=> ?_)) (λh3=>cy (λh4=> ?_) (λh4=> ?_))))
 .have:k=1:=by simpa using h1
  subst this;exact⟨rfl,rfl⟩
 .have:k=2:=by simpa using h2
  subst this;exact⟨rfl,rfl⟩
 .have:k=3:=by simpa using h3
  subst this;exact⟨rfl,rfl⟩
 .rw[h3] at h;cases h
 .have:k=4:=by simpa using h4
  subst this;exact⟨rfl,rfl⟩
 .exact⟨by simp[h1,h2,h3,h4],rfl⟩
def A0 (x:PK):List (Int×Int):=[(x.kd,1),(x.fr,1),(x.to,1)]
def A1 (x:PK):List (Int×Int):=A0 x++[(x.sq,8)]
def A2 (x:PK):List (Int×Int):=if CQ x.kd then A1 x++[(x.cl,8)] else A1 x
def A3 (x:PK):List (Int×Int):=if rn x.kd then A2 x++x.ip.map (·,1) else A2 x
def A4 (x:PK):List (Int×Int):=if x.kd==1 then A3 x++[(x.md,1)] else A3 x
def A5 (x:PK):List (Int×Int):=if x.kd==2 then A4 x++[(x.cd,1)] else A4 x
def A6 (x:PK):List (Int×Int):=if nB x.kd then A5 x++[(un x.n,8)] else A5 x
def A7 (x:PK):List (Int×Int):=if x.kd==1 then A6 x++[((x.rs.length:Int),8)] else A6 x
def xm (rs:List OR):aJ:=rs.flatMap λr=>ja r.1
def fG (x:PK):aJ:=dM (A7 x) []++xm x.rs
theorem iF.kd {x:PK} (h:iF x):1<=x.kd/\x.kd<=5:=by unfold iF at h;omega
section
variable {x:PK} (hx:jb x) (hr:iF x)
include hx hr
theorem OK:Fs (A0 x) 3:=by have hk:=hr.kd;unfold iF at hr;exact((Fs.nil.qp rfl (by omega) (by show x.kd<256;omega)).qp rfl hr.1 (by show x.fr<256;omega)).qp rfl hr.2.2.1 (by show x.to<256;omega)
theorem FK:Fs (A1 x) 4:=(OK hx hr).qp rfl hx.sq.1 (by have:=hx.sq.2;show x.sq<18446744073709551616;omega)
theorem CR:Fs (A2 x) 5:=by
 unfold A2;split
 .exact(FK hx hr).qp rfl hx.cl.1 (by have:=hx.cl.2;show x.cl<18446744073709551616;omega)
 .exact(FK hx hr).mono (by omega)
theorem Jm:Fs (A3 x) 21:=by
 unfold A3;split
 .have:=(CR hx hr).bytes hx.rk;rw[hx.ip] at this;exact this
 .exact(CR hx hr).mono (by omega)
theorem FM:Fs (A4 x) 22:=by
 unfold A4;split
 .rename_i h;have h:x.kd=1:=by simpa using h
  have h3:=Jm hx hr;unfold iF at hr;exact h3.qp rfl (by omega) (by show x.md<256;omega)
 .exact(Jm hx hr).mono (by omega)
theorem FN:Fs (A5 x) 23:=by
 unfold A5;split
 .rename_i h;have h:x.kd=2:=by simpa using h
  have h3:=FM hx hr;unfold iF at hr;exact h3.qp rfl (by omega) (by show x.cd<256;omega)
 .exact(FM hx hr).mono (by omega)
theorem FO:Fs (A6 x) 24:=by
 unfold A6;split
 .have:=acx x.n;exact(FN hx hr).qp rfl this.1 (by show un x.n<18446744073709551616;omega)
 .exact(FN hx hr).mono (by omega)
theorem AH:x.rs.length<=1/\(x.kd≠1->x.rs=[])/\∀r∈x.rs,i9 r.1=true:=by
 unfold iF at hr;rcases hr.2.2.2.2.2 with h|h|h|h
 .exact⟨h.2.1,λe=>absurd h.1 e,h.2.2.1⟩
 .rw[h.2.2.2.1];simp
 .rw[h.2.2.2.2.1];simp
 .rw[h.2.2.2.2.2.2];simp
theorem FP:Fs (A7 x) 25:=by
 unfold A7;split
 .have:=(AH hx hr).1;exact(FO hx hr).qp rfl (by omega) (by show(x.rs.length:Int)<18446744073709551616;omega)
 .exact(FO hx hr).mono (by omega)
end
theorem OL (rs:List OR):(xm rs).length=64*rs.length:=by
 induction rs with
 |nil=>rfl
 |cons r rs ih=>show(ja r.1++xm rs).length=_;rw[gp,FB r.2,ih,iB];omega
section
variable {O w:ao} {F:HP} {x:PK} {p:av} {l c:Nat}
theorem xo {g k:Nat} {fs:List (Int×Int)} {n s:Int} (h:V O (Wr g (dM fs [])*F) w) (qq:Fs (fs++[(n,s)]) k) (hk:k<=30): ae 261 #[al g,ah n,aa s] w λv w'=>v=aa 0/\V O (Wr g (dM (fs++[(n,s)]) [])*F) w':=by have hf:=qq.vM (n,s) (by simp);have hr:=qq.fN (n,s) (by simp);have h1:Fs fs 30:=⟨by have:=qq.len;simp at this;omega,λf hm=>qq.vM f (by simp[hm]),λf hm=>qq.fN f (by simp[hm])⟩;have:=h1.Jl;rw[Jk];exact CE h hf hr.1 hr.2 (by omega)
theorem ON (h:V O F w) (hx:jb x) (hr:¬iF x) (gx:bd F 36 p l (x.rs.flatMap cS)) (hl:l<=4611686018427387904): ae 171 #[an (bC x (af p l c))] w λv w'=>v=ak #[aP,aa 5]/\V O F w':=by apply NZ;refine aG h λk1 w1 h1=>mw h1 hx.ip<|ay (OI h1 hx (bd.right gx) hl) ?_;rintro _ w2 ⟨rfl,h2⟩;rw[if_neg hr];exact bI<|aW rfl ⟨rfl,h2.right⟩
theorem OO (h:V O F w) (hx:jb x) (hr:iF x) (gx:bd F 36 p l (x.rs.flatMap cS)) (hl:l<=4611686018427387904): ae 171 #[an (bC x (af p l c))] w λv w'=>∃q d,v=ak #[af q (fG x).length d,aa 0]/\V O (own 5 1 q (fG x).length d (bc (fG x))*F) w':=by
 apply NZ;refine aG h λk1 w1 h1=>mw h1 hx.ip<|ay (OI h1 hx (bd.right gx) hl) ?_;rintro _ w2 ⟨rfl,h2⟩;rw[if_pos hr];refine bI<|aw rfl<|ay (Oe h2) ?_;rintro _ w3 ⟨g,rfl,h3⟩;have h3:V O (Wr g (dM [] [])*(ab k1 (bC x (af p l c)) 150*F)) w3:=h3;have cc:∀{w:ao} {A:HP} {v:Value},V O (A*(ab k1 (bC x (af p l c)) 150*F)) w->∀i,(bC x (af p l c))[i]?=some v->w.cell? ((aD k1).add i)=some v:=λh i e=>aB h.right e;have tt:∀{w:ao} {A:HP} {v:Value},V O (A*(ab k1 (bC x (af p l c)) 150*F)) w->∀j,(mv x (af p l c))[j]?=some v->w.cell? ((aD k1).add (21+j))=some v:=λh j e=>FF h.right hx.ip j e;have el:=FH (gx _ _ h);have hk:=hr.kd;have fp:=hr;obtain⟨r0,r1,r2,r3,_,_⟩:=fp;refine gK<|az (cc h3 0 rfl)<|az (cc h3 1 rfl)<|az (cc h3 2 rfl) ⟨λi w m=>∃j:Nat,i=j/\j<=3/\m=3- j/\V O (Wr g (dM ((A0 x).take j) [])*(ab k1 (bC x (af p l c)) 150*F)) w,⟨_,0,rfl,by omega,rfl,h3⟩,?_⟩;rintro u _ w4 m ⟨j,rfl,hj,rfl,h4⟩;refine bU (λaQ=>⟨by omega,?_⟩) (λbW=> ?_)
 .have step:∀n,(A0 x)[j]?=some (n,1)->ae 261 #[al g,ah n,aa 1] w4 λv17 w5=>bp .i64 v17 λOo=>arith .i64 ((j:Int)+1) λOP=>∃OQ,OQ<3- j/\∃i:Nat,OP=i/\i<=3/\OQ=3- i/\V O (Wr g (dM ((A0 x).take i) [])*(ab k1 (bC x (af p l c)) 150*F)) w5:=by
   intro n hn;have e:(A0 x).take (j+1)=(A0 x).take j++[(n,1)]:=by rw[fV,hn];rfl
   have qq:Fs ((A0 x).take j++[(n,1)]) 30:=by rw[<-e];have h:=OK hx hr;exact⟨by have:=h.len;rw[fB];omega,λf hm=>h.vM f (pU hm),λf hm=>h.fN f (pU hm)⟩
   refine ay (xo h4 qq (by omega)) ?_;rintro _ w5 ⟨rfl,h5⟩;refine bI<|aY (by omega) (by omega) ⟨_,by omega,j+1,by omega,by omega,rfl,?_⟩;rw[e];exact h5
  have:j=0\/j=1\/j=2:=by omega
  rcases this with rfl|rfl|rfl
  .exact⟨_,rfl,fx (by omega) (by omega)<|step _ rfl⟩
  .exact⟨_,rfl,fx (by omega) (by omega)<|step _ rfl⟩
  .exact⟨_,rfl,fx (by omega) (by omega)<|step _ rfl⟩
 have:j=3:=by omega
 subst this;refine az (cc h4 3 rfl)<|ay (xo h4 (FK hx hr) (by omega)) ?_;rintro _ w6 ⟨rfl,h6⟩;have h6:V O (Wr g (dM (A1 x) [])*(ab k1 (bC x (af p l c)) 150*F)) w6:=h6;refine bI<|az (cc h6 0 rfl)<|fY (OJ _) ⟨_,_,_,_,_,_,rfl,λw=>V O (Wr g (dM (A2 x) [])*(ab k1 (bC x (af p l c)) 150*F)) w,?_,?_⟩
 .have h:=CR hx hr;unfold A2 at h ⊢;refine cy (λhb=> ?_) (λhb=> ?_)
  .rw[if_pos hb] at h ⊢;refine az (cc h6 4 rfl)<|ay (xo h6 h (by omega)) ?_;rintro _ w7 ⟨rfl,h7⟩;exact bI h7
  .rw[if_neg (by rw[hb];simp)];exact h6
 rintro u w9 h9;refine Jd h9.right hx.ip ⟨λi w m=>∃j:Nat,i=j/\j<=16/\m=16- j/\V O (Wr g (dM (if rn x.kd then A2 x++(x.ip.take j).map (·,1) else A2 x) [])*(ab k1 (bC x (af p l c)) 150*F)) w,⟨_,0,rfl,by omega,rfl,?_⟩,?_⟩
 .simp only[qT,zU,jS,ite_self];exact h9
 rintro u _ dn m ⟨j,rfl,hj,rfl,aV⟩;refine bU (λaQ=>⟨by omega,?_⟩) (λbW=> ?_)
 .have OS:j<x.ip.length:=by rw[hx.ip];omega
  have hb:x.ip[j]?=some x.ip[j]:=by simp[OS]
  have mu:=hx.rk _ (sd OS);refine⟨x.ip[j],by rw[kI,show Int.toNat (j:Int)*1=j by omega];exact Fp hb,cy (λhi=> ?_) (λhi=> ?_)⟩
  .rw[if_pos hi] at aV;have e:A2 x++(x.ip.take (j+1)).map (·,(1:Int))=(A2 x++(x.ip.take j).map (·,1))++[(x.ip[j],1)]:=by rw[fV,hb,nF,iy];rfl
   have qq:Fs ((A2 x++(x.ip.take j).map (·,1))++[(x.ip[j],1)]) 30:=by rw[<-e];refine((CR hx hr).bytes (bs:=x.ip.take (j+1)) (λb hm=>hx.rk b (pU hm))).mono ?_;rw[fB];omega
   refine fx (by omega) (by omega)<|ay (xo aV qq (by omega)) ?_;rintro _ dP ⟨rfl,bu⟩;refine bI<|aY (by omega) (by omega) ⟨_,by omega,j+1,by omega,by omega,rfl,?_⟩;rw[if_pos hi,e];exact bu
  .have uB:¬rn x.kd=true:=by rw[hi];simp
   rw[if_neg uB] at aV;refine aY (by omega) (by omega) ⟨_,by omega,j+1,by omega,by omega,rfl,?_⟩;rw[if_neg uB];exact aV
 rw[eW (by rw[hx.ip];omega)] at aV;have aV:V O (Wr g (dM (A3 x) [])*(ab k1 (bC x (af p l c)) 150*F)) dn:=aV;refine⟨λw=>V O (Wr g (dM (A4 x) [])*(ab k1 (bC x (af p l c)) 150*F)) w,?_,?_⟩
 .have h:=FM hx hr;unfold A4 at h ⊢;refine cy (λhb=> ?_) (λhb=> ?_)
  .rw[if_pos hb] at h ⊢;have:=h.fN (x.md,1) (by simp);have h2:x.md<256:=this.2;refine az (tt aV 0 rfl)<|fx this.1 (by omega)<|ay (xo aV h (by omega)) ?_;rintro _ w7 ⟨rfl,h7⟩;exact bI h7
  .rw[if_neg (by rw[hb];simp)];exact aV
 rintro u fZ bN;refine⟨λw=>V O (Wr g (dM (A5 x) [])*(ab k1 (bC x (af p l c)) 150*F)) w,?_,?_⟩
 .have h:=FN hx hr;unfold A5 at h ⊢;refine cy (λhb=> ?_) (λhb=> ?_)
  .rw[if_pos hb] at h ⊢;have:=h.fN (x.cd,1) (by simp);have h2:x.cd<256:=this.2;refine az (tt bN 2 rfl)<|fx this.1 (by omega)<|ay (xo bN h (by omega)) ?_;rintro _ w7 ⟨rfl,h7⟩;exact bI h7
  .rw[if_neg (by rw[hb];simp)];exact bN
 rintro u kQ cE;refine⟨λw=>V O (Wr g (dM (A6 x) [])*(ab k1 (bC x (af p l c)) 150*F)) w,?_,?_⟩
 .have h:=FO hx hr;unfold A6 at h ⊢;refine cy (λhb=> ?_) (λhb=> ?_)
  .rw[if_pos hb] at h ⊢;refine az (tt cE 1 rfl)<|acy<|ay (xo cE h (by omega)) ?_;rintro _ w7 ⟨rfl,h7⟩;exact bI h7
  .rw[if_neg (by rw[hb];simp)];exact cE
 rintro u nN dZ;refine⟨λw=>V O (Wr g (dM (A7 x) [])*(ab k1 (bC x (af p l c)) 150*F)) w,?_,?_⟩
 .have h:=FP hx hr;unfold A7 at h ⊢;refine cy (λhb=> ?_) (λhb=> ?_)
  .rw[if_pos hb] at h ⊢;rw[el] at h ⊢;refine aN (tt dZ 3 rfl)<|fx (by omega) (by omega)<|ay (xo dZ h (by omega)) ?_;rintro _ w7 ⟨rfl,h7⟩;exact bI h7
  .rw[if_neg (by rw[hb];simp)];exact dZ
 rintro u rp fq;have hsm:=((FP hx hr).mono (m:=30) (by omega)).Jl;refine ay (Oh fq (by omega)) ?_;rintro _ qt ⟨q,d,rfl,jd⟩;have Jn:=AH hx hr;refine iE<|aN (tt (A:=own 5 1 q (dM (A7 x) []).length d (bc (dM (A7 x) []))*Wr g (dM (A7 x) [])) (jd.g1) 3 rfl) ⟨λJo Jp Jq i w m=>∃j:Nat,i=j/\j<=l/\m=l- j/\Jp=(dM (A7 x) []).length+64*j/\V O (own 5 1 Jo Jp Jq (bc (dM (A7 x) []++xm (x.rs.take j)))*(Wr g (dM (A7 x) [])*(ab k1 (bC x (af p l c)) 150*F))) w,⟨_,0,rfl,by omega,rfl,by omega,by simpa[xm] using jd⟩,?_⟩;rintro u Jo Jp Jq _ tr m ⟨j,rfl,hj,rfl,rfl,my⟩;refine bU (λaQ=> ?_) (λbW=> ?_)
 .have iM:j<x.rs.length:=by omega
  have OT:x.rs[j]?=some x.rs[j]:=by simp[iM]
  have FQ:=gx _ _ my.right.right.right;refine fM FQ (by omega) (by omega) λa ha=> ?_;rw[cu];refine FG FQ ha OT<|aG my λOU AI oN=>bL oN rfl (dq x.rs[j].2) CL λAJ qf=>xe qf x.rs[j].2<|ay (abR qf x.rs[j].2 (Jn.2.2 _ (sd iM))) ?_;rintro _ FR ⟨qe,de,rfl,rq⟩;have sv:=rq.p2;have hj1:j<=1:=by omega
  refine⟨_,_,_,_,rfl,lW CD sv sv.right.left.rd (jt _) (by simp only[maxLen];omega) (by omega) λp' c' Jr xp=> ?_⟩;refine aY (by omega) (by omega) ⟨_,?_,j+1,by omega,by omega,rfl,by omega,?_⟩
  .omega
  .have e:dM (A7 x) []++xm (x.rs.take (j+1))=(dM (A7 x) []++xm (x.rs.take j))++ja x.rs[j].1:=by rw[fV,OT,xm,sW,iy];show _++(_++(ja x.rs[j].1++[]))=_;rw[jS];rfl
   rw[e,pt];exact(xp.p2.p2.g1).right
 .have:j=l:=by omega
  subst this;rw[eW (by omega)] at my;have e:(dM (A7 x) []).length+64*j=(fG x).length:=by rw[fG,gp,OL,el]
  rw[e] at my ⊢;exact⟨_,_,rfl,(my.aF (B:=Wr g (dM (A7 x) [])*(ab k1 (bC x (af p j c)) 150*(own 5 1 Jo (fG x).length Jq (bc (fG x))*F))) (by show own _ _ _ _ _ (bc (fG x))*_=_;ac_rfl)).right.right⟩
end
theorem wX {fs:List (Int×Int)} {n:Int} {L:Nat} (h:(dM fs []).length=L):(dM (fs++[(n,8)]) []).length=L+(lB L 8).toNat+8:=by rw[Jk,gp,h,IT _ _ _ (by omega)];simp;omega
section
variable {O w:ao} {F:HP}
end
end Go.Proofs.YtjhnnnfnkjighaaGreatDoor
