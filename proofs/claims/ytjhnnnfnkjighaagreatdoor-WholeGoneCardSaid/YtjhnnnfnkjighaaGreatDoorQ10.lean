/- Whole: a part of the proof. No conditions. -/
import Derived.Test.YtjhnnnfnkjighaaGreatDoorQ09
import Derived.Laws.BytesString
import Derived.Laws.Externs
set_option linter.unusedVariables false
set_option linter.unusedSimpArgs false
set_option maxRecDepth 100000
set_option linter.unusedSectionVars false
namespace Go.Proofs.YtjhnnnfnkjighaaGreatDoor
open Go.Sp Go.RowKit
def AK (ns:aJ):ByteArray:=ns.foldl (λr n=>r.push (UInt8.ofNat n.toNat)) ByteArray.empty
theorem OV (ns:aJ) (acc:ByteArray):(ns.foldl (λr n=>r.push (UInt8.ofNat n.toNat)) acc).data.toList=acc.data.toList++ns.map λn=>UInt8.ofNat n.toNat:=by
 induction ns generalizing acc with
 |nil=>simp
 |cons n ns ih=>rw[o0,ih];simp[ByteArray.push]
theorem acA {a b:aJ} (ha:∀x∈a,0<=x/\x<=255) (hb:∀x∈b,0<=x/\x<=255):((AK a).toList==(AK b).toList)=decide (a=b):=by
 rw[ByteArray.toList_eq,ByteArray.toList_eq];unfold AK;rw[OV,OV];have e:ByteArray.empty.data.toList=[]:=rfl;rw[e,m8,m8,sX];simp only[beq_iff_eq,decide_eq_true_eq];constructor
 .intro h;induction a generalizing b with
  |nil=>cases b with
   |nil=>rfl
   |cons y b=>simp at h
  |cons x a ih=>cases b with
   |nil=>simp at h
   |cons y b=>rw[jo,jo] at h;obtain⟨h1,h2⟩:=List.cons.inj h;have hx:=ha x (.head _);have hy:=hb y (.head _);have h3:=congrArg UInt8.toNat h1;simp at h3;rw[ih (λz hz=>ha z (.tail _ hz)) (λz hz=>hb z (.tail _ hz)) h2,show x=y by omega]
 .rintro rfl;rfl
theorem OW {w:ao} {p:av} {l c:Nat} {ns:aJ} {K:ByteArray->ao->Prop} (h:Rd w 1 p l (bc ns)) (hk:K (AK ns) w):EM au (convert 192 9 (af p l c)) w K:=by
 refine⟨AK ns,w,?_,hk⟩;rw[run_convert_bytes_string w 192 9 5 p l c (by kernel_rfl) (by kernel_rfl) (by kernel_rfl)];have hl:=h.wX;cases p with
 |none=>
  have:l=0:=by
   rcases wH l with h0|h0
   .exact h0
   .obtain⟨a,e⟩:=h.2.1 h0;cases e
  subst this;have:ns=[]:=m5 hl;subst this;simp[Conv.bytesToString,AK]
 |some a=>
  refine run_bytesToString w a l c ns ?_;have:=Go.Sp.Nq (P:=au) (a:=a) (w:=w) l 0 #[] (bc ns).toArray (by simp[dh,hl]) (λj hj=>by
   rw[dc];have e:(bc ns)[j]?=some ((bc ns)[j]'(by rw[dh];omega)):=by simp[dh,hl,hj]
   rw[kI,e];exact h.get rfl e)
  rw[Array.empty_append] at this;exact this
theorem OX {w:ao} {p q:av} {l m c d:Nat} {xs ys:aJ} (hx:Rd w 1 p l (bc xs)) (hy:Rd w 1 q m (bc ys)) (ha:∀x∈xs,0<=x/\x<=255) (hb:∀x∈ys,0<=x/\x<=255): ae 139 #[af p l c,af q m d] w λv w'=>v=aC (decide (xs=ys))/\w'=w:=by apply Wd;exact OW hx<|OW hy ⟨by rw[acA ha hb],rfl⟩
theorem acB {bs:aJ} {o:Nat} {s:Int} (hr:∀b∈bs,0<=b/\b<=255):(lZ bs o s).1<256^s.toNat:=by
 unfold lZ;have h0:(0:Int)<256^s.toNat:=Int.pow_pos (by decide);split
 .exact h0
 .dsimp only;split
  .exact h0
  .split
   .exact h0
   .dsimp only;have hm:∀b∈(bs.drop (o+(lB o s).toNat)).take s.toNat,0<=b/\b<=255:=λb hb=>hr b (sV (pU hb));have h1:=(CH _ hm).2;refine Int.lt_of_lt_of_le h1 (IZ ?_);rw[fB];omega
theorem acC (fs:List (Int×Int)) (bs:aJ):∃t,dM fs bs=bs++t:=by
 induction fs generalizing bs with
 |nil=>exact⟨[],by simp[dM]⟩
 |cons f fs ih=>obtain⟨t,ht⟩:=ih (bs++lC bs.length f.1 f.2);refine⟨lC bs.length f.1 f.2++t,?_⟩;show dM fs (bs++lC bs.length f.1 f.2)=_;rw[ht,iy]
def bG (fs:List (Int×Int)) (bs:aJ):Prop:=∃t,bs=dM fs []++t
theorem bG.nP {fs gs:List (Int×Int)} {bs:aJ} (h:bG (fs++gs) bs):bG fs bs:=by obtain⟨t,rfl⟩:=h;rw[acu];obtain⟨t',e⟩:=acC gs (dM fs []);exact⟨t'++t,by rw[e,iy]⟩
theorem bG.read {fs:List (Int×Int)} {n s:Int} {bs:aJ} {k:Nat} (h:bG (fs++[(n,s)]) bs) (qq:Fs (fs++[(n,s)]) k):lZ bs (dM fs []).length s=(n,(dM (fs++[(n,s)]) []).length,0):=by obtain⟨t,rfl⟩:=h;have hr:=qq.fN (n,s) (by simp);rw[Jk,iy,abN (qq.vM (n,s) (by simp)) hr.1 hr.2,gp]
theorem OY (x:PK):bG (A7 x) (fG x):=⟨_,rfl⟩
theorem OZ (x:PK):bG (A6 x) (fG x):=by
 have h:=OY x;unfold A7 at h;split at h
 .exact h.nP
 .exact h
theorem O0 (x:PK):bG (A5 x) (fG x):=by
 have h:=OZ x;unfold A6 at h;split at h
 .exact h.nP
 .exact h
theorem O1 (x:PK):bG (A4 x) (fG x):=by
 have h:=O0 x;unfold A5 at h;split at h
 .exact h.nP
 .exact h
theorem O2 (x:PK):bG (A3 x) (fG x):=by
 have h:=O1 x;unfold A4 at h;split at h
 .exact h.nP
 .exact h
theorem O3 (x:PK):bG (A2 x) (fG x):=by
 have h:=O2 x;unfold A3 at h;split at h
 .exact h.nP
 .exact h
theorem acD (x:PK):bG (A1 x) (fG x):=by
 have h:=O3 x;unfold A2 at h;split at h
 .exact h.nP
 .exact h
structure jJ (bs:aJ) (y:PK):Prop where
 rr:jb y
 right:iF y
 enc:fG y=bs
theorem acE {n:Int} (h:i64 n):IntKind.wrap .i64 (un n)=n:=by unfold i64 at h;simp only[IntKind.wrap,IntKind.signed,IntKind.bits,un];simp;split<;>omega
theorem O4 {x:PK} (hx:jb x) (hr:iF x):∀b∈fG x,0<=b/\b<=255:=by
 have key:∀(fs:List (Int×Int)) (bs:aJ),(∀b∈bs,0<=b/\b<=255)->∀b∈dM fs bs,0<=b/\b<=255:=by
  intro fs;induction fs with
  |nil=>intro bs h;exact h
  |cons f fs ih=>
   intro bs h;refine ih (bs++lC bs.length f.1 f.2) λb hb=> ?_;rcases fj.1 hb with hb|hb
   .exact h b hb
   .rcases fj.1 hb with hb|hb
    .rw[List.mem_replicate] at hb;rw[hb.2];decide
    .exact xd _ _ b hb
 intro b hb;rcases fj.1 hb with hb|hb
 .exact key _ [] (by simp) b hb
 .obtain⟨r,_,hb⟩:=zR.1 hb;exact Oz r.2 b hb
theorem Fs.nP {fs gs:List (Int×Int)} {k:Nat} (h:Fs (fs++gs) k):Fs fs k:=⟨by have:=h.len;rw[gp] at this;omega,λf hm=>h.vM f (by simp[hm]),λf hm=>h.fN f (by simp[hm])⟩
theorem bG.step {fs:List (Int×Int)} {n s:Int} {bs:aJ} {k o o':Nat} {n' e:Int} (h:bG (fs++[(n,s)]) bs) (qq:Fs (fs++[(n,s)]) k) (ho:o=(dM fs []).length) (hr:lZ bs o s=(n',o',e)):n'=n/\o'=(dM (fs++[(n,s)]) []).length:=by subst ho;rw[h.read qq] at hr;simp only[Prod.mk.injEq] at hr;exact⟨hr.1.symm,hr.2.1.symm⟩
section
variable {bs:aJ} {y:PK} (hy:jJ bs y)
include hy
theorem jJ.p1:bG (A1 y) bs:=by have:=acD y;rwa[hy.enc] at this
theorem jJ.p2:bG (A2 y) bs:=by have:=O3 y;rwa[hy.enc] at this
theorem jJ.p3:bG (A3 y) bs:=by have:=O2 y;rwa[hy.enc] at this
theorem jJ.p4:bG (A4 y) bs:=by have:=O1 y;rwa[hy.enc] at this
theorem jJ.p5:bG (A5 y) bs:=by have:=O0 y;rwa[hy.enc] at this
theorem jJ.p6:bG (A6 y) bs:=by have:=OZ y;rwa[hy.enc] at this
theorem jJ.p7:bG (A7 y) bs:=by have:=OY y;rwa[hy.enc] at this
end
section
variable {y:PK} (hr:iF y)
include hr
theorem acF (h:CQ y.kd=false):y.cl=0:=by
 unfold iF at hr;have:y.kd≠1/\y.kd≠2:=by simpa[CQ] using h
 omega
theorem acG (h:rn y.kd=false):y.ip=dW:=by
 have h':y.kd≠1/\y.kd≠3/\y.kd≠4:=by simpa[rn,and_assoc] using h
 unfold iF at hr;rcases hr.2.2.2.2.2 with h|h|h|h
 .exact absurd h.1 h'.1
 .exact h.2.1
 .omega
 .exact h.2.2.1
theorem acH (h:(y.kd==1)=false):y.md=0:=by
 unfold iF at hr;have:y.kd≠1:=by simpa using h
 omega
theorem acI (h:(y.kd==2)=false):y.cd=0:=by
 unfold iF at hr;have:y.kd≠2:=by simpa using h
 omega
theorem r_n (h:nB y.kd=false):y.n=0:=by
 unfold iF at hr;have:y.kd≠1/\y.kd≠2/\y.kd≠3/\y.kd≠4:=by simpa[nB,and_assoc] using h
 omega
end
theorem acK {x:PK} {v:Value} {b:Int} {j:Nat} (hj:j<x.ip.length):(bC x v).setIfInBounds (5+j) (.int .u8 b)=bC {x with ip:=x.ip.set j b} v:=by
 apply cT;rw[rZ];show(jI x v).set (5+j) _=jI {x with ip:=x.ip.set j b} v;unfold jI;rw[lp _ _ (by simp),List.set_append_left _ _ (by simp[dh];omega)];have e:5+j- ([aa x.kd,aa x.fr,aa x.to,ah x.sq,ah x.cl]:dB).length=j:=by simp
 rw[e,ab9];rfl
theorem acL {k:IntKind} {e:Int} {K:Int->Prop} (h:K (IntKind.wrap k e)):arith k e K:=h
theorem wrap_i64 (n:Int):i64 (IntKind.wrap .i64 n):=by simp only[IntKind.wrap,IntKind.signed,IntKind.bits,i64];simp;split<;>omega
section
variable {O w:ao} {F:HP}
theorem CS {A B:HP} {g k4 o:Nat} {s:Int} {bs:aJ} (h:V O (gj g bs o*(A*(ab k4 #[al g] 492*B))) w) (ho:o<=bs.length) (hb:bs.length<=140737488355328) (hr:∀b∈bs,0<=b/\b<=255): ae 241 #[aa s,al k4] w λv w'=>∃n o' e,lZ bs o s=(n,o',e)/\v=ah n/\(0<=n/\n<256^s.toNat/\n<=18446744073709551615)/\o'<=bs.length/\V O (gj g bs o'*(A*(ab k4 #[al g] 492*B))) w':=by apply YF;refine bh (h.right.right.left.cell (i:=0) rfl)<|ay (CI (size:=s) h ho hb hr) ?_;rintro _ w' ⟨rfl,h1,h2⟩;have h3:=abM (bs:=bs) (aj:=o) (size:=s) hr;exact⟨_,_,rfl,_,_,_,rfl,rfl,⟨h3.1,acB hr,h3.2⟩,h1,h2⟩
theorem acM {p:av} {l c:Nat} {bs:aJ} (h:V O F w) (gx:bd F 1 p l (bc bs)) (hc:l<=c) (hb:l<=140737488355328) (hr:∀b∈bs,0<=b/\b<=255): ae 153 #[af p l c] w λv w'=>∃y q m d e G,v=ak #[an (bC y (af q m d)),aa e]/\jb y/\m<=1/\bd G 36 q m (y.rs.flatMap cS)/\V O (G*F) w'/\ ((e=0/\jJ bs y/\∀y',jJ bs y'->y'=y)\/(e=5/\y=dX/\∀y',¬jJ bs y')):=by
 apply YC;have hl:=(gx _ _ h).wX;subst hl;have acN:jb dX:=⟨⟨by decide,by decide⟩,⟨by decide,by decide⟩,⟨by decide,by decide⟩,⟨by decide,by decide⟩,⟨by decide,by decide⟩,rfl,by decide,⟨by decide,by decide⟩,⟨by decide,by decide⟩,⟨by decide,by decide⟩⟩;refine aG h λk1 w1 h1=>ay (Ok h1 (bd.right gx) hb) ?_;rintro _ w2 ⟨g,rfl,h2⟩;refine gK<|aG h2 λk4 w3 h3=>bD (i:=0) h3 (by simp) λw4 h4=>aG h4 λk5 w5 h5=> ?_;have h5:V O (gj g bs 0*(ab k5 (bC dX aP) 150*(ab k4 #[al g] 492*(ab k1 (bC dX aP) 150*F)))) w5:=h5.aF (by show ab k5 (bC dX aP) 150*(ab k4 #[al g] 492*(gj g bs 0*(ab k1 (bC dX aP) 150*F)))=_;ac_rfl);refine ay (CS (s:=1) h5 (by omega) hb hr) ?_;rintro _ w6 ⟨n1,o1,e1,E1,rfl,⟨q1,O5,_⟩,b1,h6⟩;have O5:n1<256:=O5;refine bI<|aY (by omega) (by omega)<|ay (CS (s:=1) h6 b1 hb hr) ?_;rintro _ w7 ⟨n2,o2,e2,E2,rfl,⟨q2,O6,_⟩,b2,h7⟩;have O6:n2<256:=O6;refine bI<|aY (by omega) (by omega)<|ay (CS (s:=1) h7 b2 hb hr) ?_;rintro _ w8 ⟨n3,o3,e3,E3,rfl,⟨q3,O7,_⟩,b3,h8⟩;have O7:n3<256:=O7;refine bI<|aY (by omega) (by omega)<|ay (CS (s:=8) h8 b3 hb hr) ?_;rintro _ w9 ⟨n4,o4,e4,E4,rfl,⟨q4,_,q4'⟩,b4,h9⟩;have I1:∀y,jJ bs y->o4=(dM (A1 y) []).length/\y.kd=n1/\y.fr=n2/\y.to=n3/\y.sq=n4:=by intro y hy;have f1:=FK hy.rr hy.right;have p1:=hy.p1;have f0:Fs (([(y.kd,1)]++[(y.fr,1)])++[(y.to,1)]) 4:=f1.nP;have p0:bG (([(y.kd,1)]++[(y.fr,1)])++[(y.to,1)]) bs:=p1.nP;obtain⟨a1,a2⟩:=bG.step (fs:=[]) (n:=y.kd) (s:=1) p0.nP.nP f0.nP.nP rfl E1;obtain⟨a3,a4⟩:=bG.step (fs:=[(y.kd,1)]) (n:=y.fr) (s:=1) p0.nP f0.nP a2 E2;obtain⟨a5,a6⟩:=bG.step (fs:=[(y.kd,1)]++[(y.fr,1)]) (n:=y.to) (s:=1) p0 f0 a4 E3;obtain⟨a7,a8⟩:=bG.step (fs:=A0 y) (n:=y.sq) (s:=8) p1 f1 a6 E4;exact⟨a8,a1.symm,a3.symm,a5.symm,a7.symm⟩
 have h9:=h9.p1;refine bI<|bD (i:=0) h9 (tk (by decide)) λdn aV=> ?_;rw[tl 0 (by omega)] at aV;have aV:V O (ab k5 (bC {dX with kd:=n1} aP) 150*(gj g bs o4*(ab k4 #[al g] 492*(ab k1 (bC dX aP) 150*F)))) dn:=aV;refine bD (i:=1) aV (tk (by decide)) λdP bu=> ?_;rw[tl 1 (by omega)] at bu;have bu:V O (ab k5 (bC {dX with kd:=n1,fr:=n2} aP) 150*(gj g bs o4*(ab k4 #[al g] 492*(ab k1 (bC dX aP) 150*F)))) dP:=bu;refine bD (i:=2) bu (tk (by decide)) λfF bA=> ?_;rw[tl 2 (by omega)] at bA;have bA:V O (ab k5 (bC {dX with kd:=n1,fr:=n2,to:=n3} aP) 150*(gj g bs o4*(ab k4 #[al g] 492*(ab k1 (bC dX aP) 150*F)))) fF:=bA;refine bD (i:=3) bA (tk (by decide)) λfZ bN=> ?_;rw[tl 3 (by omega)] at bN;let S:PK->Nat->HP:=λx o=>ab k5 (bC x aP) 150*(gj g bs o*(ab k4 #[al g] 492*(ab k1 (bC dX aP) 150*F)));let X:Int->aJ->Int->Int->Int->PK:=λcl ip md n cd=>⟨n1,n2,n3,n4,cl,ip,md,n,cd,[]⟩;have bN:V O (S (X 0 dW 0 0 0) o4) fZ:=bN;have num:∀{w:ao} {x:PK} {o:Nat} {s:Int},V O (S x o) w->o<=bs.length->ae 241 #[aa s,al k4] w λv w'=>∃n o' e,lZ bs o s=(n,o',e)/\v=ah n/\(0<=n/\n<256^s.toNat/\n<=18446744073709551615)/\o'<=bs.length/\V O (S x o') w':=by intro w x o s hw ho;refine ay (CS (s:=s) (hw.aF (B:=gj g bs o*(ab k5 (bC x aP) 150*(ab k4 #[al g] 492*(ab k1 (bC dX aP) 150*F)))) (by simp only[S];ac_rfl)) ho hb hr) ?_;rintro v w' ⟨n,o',e,a1,a2,a3,a4,a5⟩;exact⟨n,o',e,a1,a2,a3,a4,a5.aF (by simp only[S];ac_rfl)⟩
 refine az (aB (bN:V O (ab k5 _ _*_) fZ) (i:=0) rfl)<|fY (OJ _) ⟨_,_,_,_,_,_,rfl,λw=>∃cl o,V O (S (X cl dW 0 0 0) o) w/\u64 cl/\o<=bs.length/\∀y,jJ bs y->o=(dM (A2 y) []).length/\y.cl=cl,?_,?_⟩
 .refine cy (λhk=>ay (num (s:=8) bN b4) ?_) (λhk=>⟨0,o4,bN,⟨by decide,by decide⟩,b4,λy hy=> ?_⟩)
  .rintro _ dH ⟨n5,o5,e5,E5,rfl,⟨q5,_,vO⟩,b5,bY⟩;refine bI<|bD (i:=4) (bY:V O (ab k5 _ _*_) dH) (tk (by decide)) λkQ cE=> ?_;rw[tl 4 (by omega)] at cE;refine⟨n5,o5,cE,⟨q5,vO⟩,b5,λy hy=> ?_⟩;have i1:=I1 y hy;have f:=CR hy.rr hy.right;have pp:=hy.p2;rw[A2,if_pos (by rw[i1.2.1];exact hk)] at f pp ⊢;have:=bG.step pp f i1.1 E5;exact⟨this.2,this.1.symm⟩
  .have i1:=I1 y hy;rw[A2,if_neg (by rw[i1.2.1,hk];simp)];exact⟨i1.1,acF hy.right (by rw[i1.2.1];exact hk)⟩
 rintro u nN ⟨cl,o5,dZ,rcl,b5,I2⟩;refine⟨λi w m=>∃(j:Nat) (ip:aJ) (o:Nat),i=j/\j<=16/\m=16- j/\V O (S (X cl ip 0 0 0) o) w/\ip.length=16/\(∀b∈ip,0<=b/\b<=255)/\o<=bs.length/\(rn n1=false->ip=dW)/\∀y,jJ bs y->o=(dM (if rn n1 then A2 y++(y.ip.take j).map (·,1) else A2 y) []).length/\(rn n1=true->ip.take j=y.ip.take j),⟨_,0,dW,o5,rfl,by omega,rfl,dZ,rfl,by decide,b5,λ_=>rfl,λy hy=>⟨?_,by simp⟩⟩,?_⟩
 .simp only[qT,zU,jS,ite_self];exact(I2 y hy).1
 rintro u _ nL m ⟨j,ip,o6,rfl,hj,rfl,fO,oO,rip,b6,iz,I3⟩;refine bU (λaQ=>cy (λhk=> ?_) (λhk=> ?_)) (λbW=> ?_)
 .refine ay (num (s:=1) fO b6) ?_;rintro _ rp ⟨n6,o7,e6,E6,rfl,⟨q6,O8,_⟩,b7,fq⟩;have O8:n6<256:=O8;refine bI<|qn ⟨by omega,?_⟩;rw[show n6%256=n6 by omega,du,du,show 0+5+Int.toNat (j:Int)*1=5+j by omega];refine bD (i:=5+j) (fq:V O (ab k5 _ _*_) rp) (by rw[jc (by exact oO)];omega) λqt jd=> ?_;rw[acK (by show j<ip.length;omega)] at jd;refine aY (by omega) (by omega) ⟨_,by omega,j+1,ip.set j n6,o7,by omega,by omega,rfl,jd,by rw[List.length_set];exact oO,λb hb=> ?_,b7,(λh=>by have cV:rn n1=true:=hk;rw[cV] at h;cases h),λy hy=> ?_⟩
  .rcases pS hb with hb|rfl
   .exact rip b hb
   .omega
  .have i3:=I3 y hy;rw[if_pos hk] at i3 ⊢;have ly:=hy.rr.ip;have O9:y.ip[j]?=some (y.ip[j]'(by omega)):=by simp
   have e:A2 y++(y.ip.take (j+1)).map (·,(1:Int))=(A2 y++(y.ip.take j).map (·,1))++[(y.ip[j]'(by omega),1)]:=by rw[fV,O9,nF,iy];rfl
   have kd:=(I1 y hy).2.1;have p3:=hy.p3;have f3:=Jm hy.rr hy.right;rw[A3,if_pos (by rw[kd];exact hk)] at p3 f3;have e3:A2 y++y.ip.map (·,(1:Int))=(A2 y++(y.ip.take (j+1)).map (·,1))++(y.ip.drop (j+1)).map (·,1):=by rw[iy,<-nF,mK]
   rw[e3,e] at p3 f3;have:=bG.step p3.nP f3.nP i3.1 E6;rw[e];refine⟨this.2,λ_=> ?_⟩;rw[fV,fV,O9,List.take_set_of_le (eJ j),i3.2 hk,List.getElem?_set_self (by omega),this.1]
 .refine aY (by omega) (by omega) ⟨_,by omega,j+1,ip,o6,by omega,by omega,rfl,fO,oO,rip,b6,iz,λy hy=> ?_⟩;have i3:=I3 y hy;rw[if_neg (by rw[hk];simp)] at i3 ⊢;exact⟨i3.1,λh=>by rw[hk] at h;cases h⟩
 have:j=16:=by omega
 subst this;have Js:∀y,jJ bs y->o6=(dM (A3 y) []).length/\y.ip=ip:=by
  intro y hy;have i3:=I3 y hy;have kd:=(I1 y hy).2.1;have ly:=hy.rr.ip;rw[A3,kd];rw[eW (by omega)] at i3;refine⟨i3.1,?_⟩;by_cases hk:rn n1=true
  .have:=i3.2 hk;rw[eW (by omega)] at this;exact this.symm
  .have hk:rn n1=false:=by simpa using hk
   rw[iz hk];exact acG hy.right (by rw[kd];exact hk)
 refine⟨λw=>∃md o,V O (S (X cl ip md 0 0) o) w/\i64 md/\o<=bs.length/\∀y,jJ bs y->o=(dM (A4 y) []).length/\y.md=md,?_,?_⟩
 .refine cy (λhk=>ay (num (s:=1) fO b6) ?_) (λhk=>⟨0,o6,fO,⟨by decide,by decide⟩,b6,λy hy=> ?_⟩)
  .rintro _ dH ⟨n5,o5,e5,E5,rfl,⟨q5,vO,_⟩,b5,bY⟩;have vO:n5<256:=vO;refine bI<|aY (by omega) (by omega)<|bD (i:=21) (bY:V O (ab k5 _ _*_) dH) (by rw[jc (by exact oO)];omega) λkQ cE=> ?_;rw[show 21=21+0 from rfl,yM (by exact oO)] at cE;refine⟨n5,o5,cE,⟨by omega,by omega⟩,b5,λy hy=> ?_⟩;have i3:=Js y hy;have kd:=(I1 y hy).2.1;have f:=FM hy.rr hy.right;have pp:=hy.p4;rw[A4,if_pos (by rw[kd];exact hk)] at f pp ⊢;have:=bG.step pp f i3.1 E5;exact⟨this.2,this.1.symm⟩
  .have kd:=(I1 y hy).2.1;rw[A4,if_neg (by rw[kd,hk];simp)];exact⟨(Js y hy).1,acH hy.right (by rw[kd];exact hk)⟩
 rintro u AJ ⟨md,o8,qf,rmd,b8,I4⟩;refine⟨λw=>∃cd o,V O (S (X cl ip md 0 cd) o) w/\i64 cd/\o<=bs.length/\∀y,jJ bs y->o=(dM (A5 y) []).length/\y.cd=cd,?_,?_⟩
 .refine cy (λhk=>ay (num (s:=1) qf b8) ?_) (λhk=>⟨0,o8,qf,⟨by decide,by decide⟩,b8,λy hy=> ?_⟩)
  .rintro _ dH ⟨n5,o5,e5,E5,rfl,⟨q5,vO,_⟩,b5,bY⟩;have vO:n5<256:=vO;refine bI<|aY (by omega) (by omega)<|bD (i:=23) (bY:V O (ab k5 _ _*_) dH) (by rw[jc (by exact oO)];omega) λkQ cE=> ?_;rw[show 23=21+2 from rfl,yM (by exact oO)] at cE;refine⟨n5,o5,cE,⟨by omega,by omega⟩,b5,λy hy=> ?_⟩;have kd:=(I1 y hy).2.1;have f:=FN hy.rr hy.right;have pp:=hy.p5;rw[A5,if_pos (by rw[kd];exact hk)] at f pp ⊢;have:=bG.step pp f (I4 y hy).1 E5;exact⟨this.2,this.1.symm⟩
  .have kd:=(I1 y hy).2.1;rw[A5,if_neg (by rw[kd,hk];simp)];exact⟨(I4 y hy).1,acI hy.right (by rw[kd];exact hk)⟩
 rintro u w26 ⟨cd,o9,xp,rcd,b9,I5⟩;refine⟨λw=>∃n o,V O (S (X cl ip md n cd) o) w/\i64 n/\o<=bs.length/\∀y,jJ bs y->o=(dM (A6 y) []).length/\y.n=n,?_,?_⟩
 .refine cy (λhk=>ay (num (s:=8) xp b9) ?_) (λhk=>⟨0,o9,xp,⟨by decide,by decide⟩,b9,λy hy=> ?_⟩)
  .rintro _ dH ⟨n5,o5,e5,E5,rfl,⟨q5,_,vO⟩,b5,bY⟩;refine bI<|acL<|bD (i:=22) (bY:V O (ab k5 _ _*_) dH) (by rw[jc (by exact oO)];omega) λkQ cE=> ?_;rw[show 22=21+1 from rfl,yM (by exact oO)] at cE;refine⟨IntKind.wrap .i64 n5,o5,cE,wrap_i64 _,b5,λy hy=> ?_⟩;have kd:=(I1 y hy).2.1;have f:=FO hy.rr hy.right;have pp:=hy.p6;rw[A6,if_pos (by rw[kd];exact hk)] at f pp ⊢;have:=bG.step pp f (I5 y hy).1 E5;refine⟨this.2,?_⟩;rw[this.1,acE hy.rr.n]
  .have kd:=(I1 y hy).2.1;rw[A6,if_neg (by rw[kd,hk];simp)];exact⟨(I5 y hy).1,r_n hy.right (by rw[kd];exact hk)⟩
 rintro u w29 ⟨n,o10,Pa,rn_,Pb,I6⟩;have acU:∀rs,jb ⟨n1,n2,n3,n4,cl,ip,md,n,cd,rs⟩:=λrs=>⟨⟨by dsimp only;omega,by dsimp only;omega⟩,⟨by dsimp only;omega,by dsimp only;omega⟩,⟨by dsimp only;omega,by dsimp only;omega⟩,⟨q4,q4'⟩,rcl,oO,rip,rmd,rn_,rcd⟩;have all:∀y rs,jJ bs y->rs=y.rs->y=⟨n1,n2,n3,n4,cl,ip,md,n,cd,rs⟩:=by intro y rs hy ru;have i1:=I1 y hy;rw[yK];exact⟨i1.2.1,i1.2.2.1,i1.2.2.2.1,i1.2.2.2.2,(I2 y hy).2,(Js y hy).2,(I4 y hy).2,(I6 y hy).2,(I5 y hy).2,ru.symm⟩
 refine⟨λw=>∃(rs:List OR) (q:av) (m d:Nat) (G:HP),V O (ab k5 (bC (⟨n1,n2,n3,n4,cl,ip,md,n,cd,rs⟩:PK) (af q m d)) 150*(G*(ab k1 (bC dX aP) 150*F))) w/\bd G 36 q m (rs.flatMap cS)/\m<=1/\∀y,jJ bs y->rs=y.rs,?_,?_⟩
 .refine⟨λb w=>∃o,V O (S (X cl ip md n cd) o) w/\o<=bs.length/\∀y,jJ bs y->o=(dM (A7 y) []).length/\(b=true↔y.rs.length=1),?_,?_⟩
  .refine cy (λhk=>ay (num (s:=8) Pa Pb) ?_) (λhk=>⟨o10,Pa,Pb,λy hy=> ?_⟩)
   .rintro _ dH ⟨n5,o5,e5,E5,rfl,⟨q5,_,vO⟩,b5,bY⟩;refine bI ⟨o5,bY,b5,λy hy=> ?_⟩;have kd:=(I1 y hy).2.1;have f:=FP hy.rr hy.right;have pp:=hy.p7;rw[A7,if_pos (by rw[kd];exact hk)] at f pp ⊢;have:=bG.step pp f (I6 y hy).1 E5;refine⟨this.2,?_⟩;rw[this.1];simp;omega
   .have kd:=(I1 y hy).2.1;have cV:y.kd≠1:=by rw[kd];simpa using hk
    rw[A7,if_neg (by simpa using cV),(AH hy.rr hy.right).2.1 cV];exact⟨(I6 y hy).1,by simp⟩
  rintro u b62 w31 ⟨kS,h31,Pc,I7⟩;have Jt:=h31.aF (B:=gj g bs kS*(ab k5 (bC (X cl ip md n cd) aP) 150*(ab k4 #[al g] 492*(ab k1 (bC dX aP) 150*F)))) (by simp only[S];ac_rfl);refine cy (λAL=> ?_) (λAL=> ?_)
  .refine bh (Jt.right.right.left.cell (i:=0) rfl)<|ay (Om Jt Pc (by omega)) ?_;rintro _ CT ⟨rfl,h33⟩;have ho:(bs.length:Int)- ((bs.length- kS:Nat):Int)=(kS:Nat):=by omega
   refine bI<|aY (by omega) (by omega) ?_;rw[ho];refine oI (by omega) (by omega) (by omega) ?_;rw[cu,cu];have gs:=bd.Ft gx (lo:=kS) (hi:=bs.length) Pc (eJ _) hc;have mz:(bs.drop kS).take (bs.length- kS)=bs.drop kS:=eW (by rw[sc];omega);rw[mz] at gs;have fQ:∀b∈bs.drop kS,0<=b/\b<=255:=λb hb=>hr b (sV hb);refine ay (abX h33 (bd.right (bd.right (bd.right (bd.right gs)))) (by omega) fQ) ?_;rintro _ Pd ⟨rfl,h34⟩;have dV:=ab7 fQ;refine⟨_,_,rfl,aG h34 λFT Pe h35=>bL h35 rfl (dq dV) CL λw36 Pf=>xe Pf dV ⟨dq dV,aG Pf λAM w37 Ju=> ?_⟩⟩;have CU:=Ju.aF (B:=ab k5 (bC (X cl ip md n cd) aP) 150*(ab AM (bF (kP (bs.drop kS)).1) 164*(ab k1 (bC dX aP) 150*F*(ab FT (bF (kP (bs.drop kS)).1) 164*(gj g bs kS*ab k4 #[al g] 492))))) (by ac_rfl);refine bD (i:=24) CU (by rw[jc (by exact oO)];omega) λw38 uC=> ?_;rw[show 24=21+3 from rfl,yM (by exact oO)] at uC;refine⟨[⟨(kP (bs.drop kS)).1,dV⟩],some (aD AM),1,1,ab AM (bF (kP (bs.drop kS)).1) 164,(uC.aF (B:=(ab FT (bF (kP (bs.drop kS)).1) 164*(gj g bs kS*ab k4 #[al g] 492))*(ab k5 (bC (⟨n1,n2,n3,n4,cl,ip,md,n,cd,[⟨(kP (bs.drop kS)).1,dV⟩]⟩:PK) (af (aU AM) 1 1)) 150*(ab AM (bF (kP (bs.drop kS)).1) 164*(ab k1 (bC dX aP) 150*F)))) ?_).right,?_,eJ _,λy hy=> ?_⟩
   .show ab k5 (bC (⟨n1,n2,n3,n4,cl,ip,md,n,cd,[⟨(kP (bs.drop kS)).1,dV⟩]⟩:PK) (af (aU AM) 1 1)) 150*_=_;ac_rfl
   .have e:([⟨(kP (bs.drop kS)).1,dV⟩]:List OR).flatMap cS=(bF (kP (bs.drop kS)).1).toList:=by show cS ⟨(kP (bs.drop kS)).1,dV⟩++[]=_;rw[jS];rfl
    rw[e];exact bd.ob (by rw[dq dV])
   .have i7:=I7 y hy;obtain⟨r,ru⟩:=List.length_eq_one_iff.1 (i7.2.1 AL);have FU:=(AH hy.rr hy.right).2.2 r (by rw[ru];simp);have e:bs.drop kS=ja r.1:=by rw[<-hy.enc,i7.1,fG,zS,ru];show ja r.1++[]=_;rw[jS]
    rw[ru];congr 1;apply Subtype.ext;show(kP (bs.drop kS)).1=r.1;rw[e,ab8 r.2 FU]
  .refine⟨[],none,0,0,cW,(Jt.p2.p1.g1).right.cQ.aF (by ac_rfl),bd.nil _ _ _,by omega,λy hy=> ?_⟩;have i7:=I7 y hy;have h1:=(AH hy.rr hy.right).1;have h2:¬y.rs.length=1:=λh=>by rw[i7.2.2 h] at AL;cases AL
   exact(m5 (by omega)).symm
 rintro u w38 ⟨rs,q,m,d,G,CU,gG,hm,I8⟩;have hX:=acU rs;have Jv:∀y,jJ bs y->y=⟨n1,n2,n3,n4,cl,ip,md,n,cd,rs⟩:=λy hy=>all y rs hy (I8 y hy);refine mw CU oO ?_;have AN:∀{w:ao} {A:HP},V O (A*(ab k1 (bC dX aP) 150*F)) w->(∀y',¬jJ bs y')->aS au (aD k1) 25 (bC dX aP) w λFV=>aA (aD k1) 25 FV λg79=>∃y q m d e G,ak #[an g79,aa 5]=ak #[an (bC y (af q m d)),aa e]/\jb y/\m<=1/\bd G 36 q m (y.rs.flatMap cS)/\V O (G*F) FV/\((e=0/\jJ bs y/\∀y',jJ bs y'->y'=y)\/(e=5/\y=dX/\∀y',¬jJ bs y')):=by intro w A hw ml;refine bL hw.right rfl rfl yJ λFV Pg=>mw Pg rfl ⟨dX,none,0,0,5,cW,rfl,acN,by omega,bd.nil _ _ _,Pg.right.cQ,.inr ⟨rfl,rfl,ml⟩⟩
 by_cases uD:iF ⟨n1,n2,n3,n4,cl,ip,md,n,cd,rs⟩
 .refine ay (OO CU hX uD (bd.right (bd.left gG)) (by omega)) ?_;rintro _ w39 ⟨qe,de,rfl,uC⟩;have hFb:=gx _ _ uC.right.right.right.right;refine⟨_,_,_,_,rfl,aw rfl<|ay (OX uC.left.rd hFb (O4 hX uD) hr) ?_⟩;rintro _ FV ⟨rfl,rfl⟩;refine cR<|cy (λcp=> ?_) (λheq=> ?_)
  .have cp:fG ⟨n1,n2,n3,n4,cl,ip,md,n,cd,rs⟩≠bs:=by simpa using cp
   exact AN (A:=own 5 1 qe _ de _*(ab k5 _ _*G)) (uC.g2) λy' dQ=>cp (by rw[<-Jv y' dQ];exact dQ.enc)
  .have heq:fG ⟨n1,n2,n3,n4,cl,ip,md,n,cd,rs⟩=bs:=by simpa using heq
   refine mw uC.right oO<|bL (uC.p3) rfl (jc oO) yJ λw41 Ph=>mw Ph oO ⟨_,q,m,d,0,G,rfl,hX,hm,gG,Ph.right.right.right,.inl ⟨rfl,⟨hX,uD,heq⟩,Jv⟩⟩
 .refine ay (ON CU hX uD (bd.right (bd.left gG)) (by omega)) ?_;rintro _ w39 ⟨rfl,uC⟩;exact⟨_,_,_,_,rfl,aW rfl<|AN (A:=ab k5 _ _*G) (uC.g1) λy' dQ=>uD (by rw[<-Jv y' dQ];exact dQ.right)⟩
end
theorem bG.Pj {fs:List (Int×Int)} {bs t:aJ} (h:bG fs bs):bG fs (bs++t):=by obtain⟨t',rfl⟩:=h;exact⟨t'++t,by rw[iy]⟩
theorem bG.nc {fs:List (Int×Int)} {n n' s:Int} {bs:aJ} {k k':Nat} (h:bG (fs++[(n,s)]) bs) (hf:Fs (fs++[(n,s)]) k) (h':bG (fs++[(n',s)]) bs) (sg:Fs (fs++[(n',s)]) k'):n=n':=by have e1:=h.read hf;rw[h'.read sg] at e1;simp only[Prod.mk.injEq] at e1;exact e1.1.symm
section
open Go.ChangeShapes Go.WideShapes Go.Deep
variable {H:Type} {enc:TypeId×Value->H} {W:ao} {base:Nat}
end
end Go.Proofs.YtjhnnnfnkjighaaGreatDoor
namespace Go.Sp
open Go.RowKit
theorem ac4 {d:TypeDesc} {k:Value} (h:∀v,Instr.sameNow d k v=none):∀(l:List MapEntry) (i:Nat),Instr.findNow d k l i=if l=[] then some none else none
 |[],i=>by simp[Instr.findNow]
 |e::l,i=>by simp[Instr.findNow,h]
theorem Pk {P:Program} {k:TypeId} {κ:Type} [DecidableEq κ] {kf:κ->Value} (heq:∀x y w,(Op.equal k (kf x) (kf y)).run P w=.ok (decide (x=y)) w) (x:κ):∀(l:List MapEntry) (ks:List κ) (j:Nat) (w:World),l.map (·.key)=ks.map kf-> (Instr.findAsking k (kf x) l j).run P w=.ok (match ks.findIdx? (λy=>decide (y=x)) with|some i=>(l[i]?).map λe=>(i+j,e.val)|none=>none) w
 |[],ks,j,w,h=>by
  have:ks=[]:=by simpa using h.symm
  subst this;simp[Instr.findAsking]
 |en::l,[],j,w,h=>by simp at h
 |en::l,y::ks,j,w,h=>by
  simp only[jo,List.cons.injEq] at h;have ih:=Pk heq x l ks (j+1) w h.2;simp only[Instr.findAsking,Sem.run_bind,h.1,heq,Result.andThen_ok];by_cases e:x=y
  .subst e;simp[zP]
  .have e2:¬y=x:=λq=>e q.symm;simp only[e,decide_false,lS,if_false];rw[ih,zP];simp only[e2,decide_false,lS,if_false];cases ks.findIdx? (λy=>decide (y=x)) with
   |none=>rfl
   |some i=>simp only[qR,EB];congr 2;funext z;congr 1;omega
theorem Pl {P:Program} {t k e:TypeId} {fs:Array Field} {κ:Type} [DecidableEq κ] {kf:κ->Value} (ht:P.underlying t=some (.map k e)) (hk:P.underlying k=some (.struct fs)) (pk:∀b x w,(Instr.checkKey b 10000 k (kf x)).run P w=.ok () w) (heq:∀x y w,(Op.equal k (kf x) (kf y)).run P w=.ok (decide (x=y)) w) (ac5:∀x,Instr.sameBits 10000 (kf x) (kf x)=true):oM P t k e kf (λ_=>True):=by
 refine⟨ht,λb x w _=>pk b x w,λx l ks w _ _ h=> ?_,λx w _=> ?_⟩
 .have hn:∀v,Instr.sameNow (.struct fs) (kf x) v=none:=λv=>by unfold Instr.sameNow;rfl
  have ha:=Pk heq x l ks 0 w h;simp only[Instr.findKey,Sem.run_bind,run_underlying hk,Result.andThen_ok,ac4 hn];by_cases hl:l=[]
  .subst hl;have:ks=[]:=by simpa using h.symm
   subst this;simp
  .simp only[hl,if_false];rw[ha];cases ks.findIdx? (λy=>decide (y=x))<;>rfl
 .simp[Instr.keyThatStays,ac5]
section
variable {O w:World} {F:HP} {P:Program}
theorem ac6 {t e ty:TypeId} {z:Value} {sz bytes:Nat} (T:fe P t e z sz bytes) {g:Nat} {a:Addr} {l c m c2:Nat} {xs news:List Value} {K:Option Addr->Nat->Nat->World->Prop} (h:V O (own e sz (aU g) l c xs*F) w) (hx:Rd w sz (some a) m news) (h1:∀u∈news,u.oneCell'=true) (sr:l+m<=c) (hk:∀w',V O (own e sz (aU g) (l+m) c (xs++news)*F) w'->K (aU g) (l+m) c w'): bR P (Builtin.append_ #[t,t] ty #[.slice (aU g) l c,.slice (some a) m c2]) w K:=by
 obtain⟨i,hi,hz,gW,qm⟩:=T.parts;subst gW;subst qm;have gJ:=h.left.po;have um:=h.left.so;rcases gJ.2 with⟨ep,hl⟩|⟨g',cap,cur,ep,_,hg,hc,oH,dT,Ao⟩
 .cases ep
 .cases ep;have eB:(xs++news).length=(l+m)*i.size:=by rw[gp,um,hx.1,pd]
  have vI:l*i.size+news.length<=cur.size:=by rw[hx.1,dT,<-pd];exact pT _ sr
  have hr:=run_append_room (P:=P) w t ty e i T.under hi g l c cur hg a m c2 news hx.1 (hx.2.2 a rfl) h1 sr vI;refine⟨_,_,_,_,hr,hk _ ?_⟩;refine h.yy (p':=some (aD g)) ⟨eB,.inr ⟨g,c,_,rfl,pb _,setRow_heap w g cur _ e _ hg,sr,oH,?_,?_⟩⟩ ⟨rfl,rfl,rfl,by simp,λk _ hk=>setRow_other w g k _ (λe=>hk (by simp[Value.ownBlock,e]))⟩ (.inl rfl)
  .simp only[Ce,gp,fB,sc,pW];omega
  .rw[Ao,<-eB];exact List.take_left
theorem ac7 {t e ty:TypeId} {z:Value} {sz bytes:Nat} (T:fe P t e z sz bytes) {g:Nat} {l c n c2:Nat} {xs:List Value} {K:World->Prop} (rb:∀u∈z.cells.toList,u.oneCell'=true) (h:V O (own e sz (aU g) l c xs*F) w) (hn:0<n) (sr:l+n<=c) (hk:∀w',V O (own e sz (aU g) l c xs*F) w'->K w'): EN P #[t] ty (some ⟨g,l*sz,none⟩) n c2 w K:=by
 obtain⟨i,hi,hz,gW,qm⟩:=T.parts;subst gW;subst qm;obtain⟨n,rfl⟩:∃m,n=m+1:=⟨n- 1,by omega⟩;have gJ:=h.left.po;have um:=h.left.so;have An:(fX z (n+1)).length=(n+1)*i.size:=by simp[fX,Builtin.zeroCells,T.cells]
 rcases gJ.2 with⟨ep,hl⟩|⟨g',cap,cur,ep,_,hg,hc,oH,dT,Ao⟩
 .cases ep
 .cases ep;have vI:l*i.size+(fX z (n+1)).length<=cur.size:=by rw[An,dT,<-pd];exact pT _ sr
  have dk:=run_storeCells_at P g (l*i.size) e (fX z (n+1)) 0 cur w hg (by simpa using vI) (by
   intro u hu;simp only[fX,wW,fC,vr] at hu;obtain⟨j,hj,rfl⟩:=hu;apply rb;have ss:0<z.cells.size:=by rw[T.cells];exact T.pos
   rw[getElem!_pos z.cells _ (Nat.mod_lt _ ss)];simp)
  simp only[sZ] at dk;have hr:(Builtin.clear_ #[t] ty #[.slice (some ⟨g,l*i.size,none⟩) (n+1) c2]).run P w=.ok (.tuple #[]) (w.setRow g (cur.toList.take (l*i.size)++fX z (n+1)++cur.toList.drop (l*i.size+(fX z (n+1)).length)).toArray):=by simp only[fX] at dk ⊢;simp[Builtin.clear_,run_underlying T.under,zeroValue,typeInfo,hi,hz,dk]
  refine⟨_,hr,hk _ ?_⟩;refine h.yy (p':=some (aD g)) ⟨um,.inr ⟨g,c,_,rfl,pb _,setRow_heap w g cur _ e _ hg,hc,oH,?_,?_⟩⟩ ⟨rfl,rfl,rfl,by simp,λk _ hk=>setRow_other w g k _ (λe=>hk (by simp[Value.ownBlock,e]))⟩ (.inl rfl)
  .simp only[Ce,gp,fB,sc,pW];omega
  .rw[Ao,iy,<-um];exact List.take_left
end
end Go.Sp
namespace Go.Proofs.YtjhnnnfnkjighaaGreatDoor
open Go.Sp Go.RowKit
abbrev xq:=Int×Int
abbrev Mark:=xq×Int
def nh (x:xq):aM:=#[aa x.1,aa x.2]
def pv (x:Mark):aM:=#[aa x.1.1,aa x.1.2,ah x.2]
def kR (x:xq):Value:=an (nh x)
def kM (x:Mark):Value:=an (pv x)
theorem vP {t:TypeId} {k:IntKind} (hu:Tryz.prog.underlying t=some (.int k)) {xs:aM} {i:Nat} {n:Int} (h:xs[i]?=some (.int k n)) (w:ao):(part t xs i).run au w=.ok (.int k n) w:=qa hu (by unfold lv;rw[hu];simp) h w
theorem Pm (d:Nat) (x y:xq) (w:ao):(Op.equalIn (d+1+1) 372 (kR x) (kR y)).run au w=.ok (decide (x=y)) w:=by
 have hp:Tryz.prog.stoodInHeld 372=false:=by kernel_rfl
 have hu:=Tryz.underlying372;have CM:∀{fs},Tryz.prog.underlying 372=some (.struct fs)->Tryz.prog.fieldsOf 372=fs:=by intro fs h;unfold Program.fieldsOf;rw[h]
 have uA:=CM hu;unfold kR;rw[run_equalIn_struct w (d+1) 372 _ _ (by rw[uA];exact hu) hp,uA];have hI:=Tryz.underlying3;have c0:∀fs,(Op.eqFields (d+1) (nh x) (nh y) (⟨"from",3,0,false, "", "tenon/net",0⟩::fs)).run au w=_:=λfs=>uy (by decide) (vP hI (i:=0) (n:=x.1) rfl w) (vP hI (i:=0) (n:=y.1) rfl w) (run_equalIn_int w d _ .i64 .i64 _ _ hI);have c1:∀fs,(Op.eqFields (d+1) (nh x) (nh y) (⟨"to",3,1,false, "", "tenon/net",8⟩::fs)).run au w=_:=λfs=>uy (by decide) (vP hI (i:=1) (n:=x.2) rfl w) (vP hI (i:=1) (n:=y.2) rfl w) (run_equalIn_int w d _ .i64 .i64 _ _ hI);refine(c0 _).trans ?_;rw[c1];have c2:(Op.eqFields (d+1) (nh x) (nh y) []).run au w=.ok true w:=by simp[Op.eqFields]
 rw[c2];obtain⟨x1,x2⟩:=x;obtain⟨y1,y2⟩:=y;dsimp only;by_cases h1:x1=y1
 .by_cases h2:x2=y2
  .simp[h1,h2]
  .simp[h1,h2]
 .simp[h1]
theorem Jw (x:Mark) (w:ao):(part 372 (pv x) 0).run au w=.ok (kR x.1) w:=by
 have hu:=Tryz.underlying372;have hf:Tryz.prog.info? 372=some (Tryz.prog.types[372]'(of_decide_eq_true (by kernel_rfl))):=by kernel_rfl
 have gW:(Tryz.prog.types[372]'(of_decide_eq_true (by kernel_rfl))).size=2:=by kernel_rfl
 have h1:(pv x).extract 0 (0+2)=nh x.1:=rfl;have:=Cn (P:=au) (t:=372) (by unfold lv;rw[hu]);unfold kR;rw[<-h1];simp[part,this,na hf,gW]
theorem ac8 (d:Nat) (x y:Mark) (w:ao):(Op.equalIn (d+1+1+1) 374 (kM x) (kM y)).run au w=.ok (decide (x=y)) w:=by
 have hp:Tryz.prog.stoodInHeld 374=false:=by kernel_rfl
 have hu:=Tryz.underlying374;have CM:∀{fs},Tryz.prog.underlying 374=some (.struct fs)->Tryz.prog.fieldsOf 374=fs:=by intro fs h;unfold Program.fieldsOf;rw[h]
 have uA:=CM hu;unfold kM;rw[run_equalIn_struct w (d+1+1) 374 _ _ (by rw[uA];exact hu) hp,uA];have hU:=Tryz.underlying26;have c0:∀fs,(Op.eqFields (d+1+1) (pv x) (pv y) (⟨"road",372,0,false, "", "tenon/net",0⟩::fs)).run au w=_:=λfs=>uy (by decide) (Jw x w) (Jw y w) (Pm d _ _ w);have c1:∀fs,(Op.eqFields (d+1+1) (pv x) (pv y) (⟨"seq",26,2,false, "", "tenon/net",16⟩::fs)).run au w=_:=λfs=>uy (by decide) (vP hU (i:=2) (n:=x.2) rfl w) (vP hU (i:=2) (n:=y.2) rfl w) (run_equalIn_int w (d+1) _ .u64 .u64 _ _ hU);refine(c0 _).trans ?_;rw[c1];have c2:(Op.eqFields (d+1+1) (pv x) (pv y) []).run au w=.ok true w:=by simp[Op.eqFields]
 rw[c2];obtain⟨x1,x2⟩:=x;obtain⟨y1,y2⟩:=y;dsimp only;by_cases h1:x1=y1
 .by_cases h2:x2=y2
  .simp[h1,h2]
  .simp[h1,h2]
 .simp[h1]
theorem Pn (n:Nat) (b:Bool) (x:xq) (w:ao):(Instr.checkKey b (n+1+1) 372 (kR x)).run au w=.ok () w:=by
 have hu:=Tryz.underlying372;have hI:=Tryz.underlying3;have p0:=vP hI (xs:=nh x) (i:=0) (n:=x.1) rfl w;have p1:=vP hI (xs:=nh x) (i:=1) (n:=x.2) rfl w;have i0:∀m:Int,(Instr.checkKey b (n+1) 3 (aa m)).run au w=.ok () w:=λm=>by simp[Instr.checkKey,run_underlying hI]
 unfold kR;rw[Instr.checkKey];simp[run_underlying hu,<-Array.forIn_toList,p0,p1,i0]
theorem ac9 (n:Nat) (b:Bool) (x:Mark) (w:ao):(Instr.checkKey b (n+1+1+1) 374 (kM x)).run au w=.ok () w:=by
 have hu:=Tryz.underlying374;have hU:=Tryz.underlying26;have p0:=Jw x w;have p1:=vP hU (xs:=pv x) (i:=2) (n:=x.2) rfl w;have i0:=Pn n b x.1 w;have i1:∀m:Int,(Instr.checkKey b (n+1+1) 26 (ah m)).run au w=.ok () w:=λm=>by simp[Instr.checkKey,run_underlying hU]
 unfold kM;rw[Instr.checkKey];simp[run_underlying hu,<-Array.forIn_toList,p0,p1,i0,i1]
theorem Po:oM au 92 372 26 kR (λ_=>True):=by
 refine Pl Tryz.underlying92 Tryz.underlying372 (λb x w=> ?_) (λx y w=> ?_) (λx=> ?_)
 .obtain⟨n,hn⟩:∃n,10000=n+1+1:=⟨9998,rfl⟩;rw[hn];exact Pn n b x w
 .obtain⟨d,hd⟩:∃d,Op.maxDepth=d+1+1:=⟨9998,by kernel_rfl⟩;unfold Op.equal;rw[hd];exact Pm d x y w
 .simp[kR,nh,Instr.sameBits]
theorem Jx:oM au 93 374 358 kM (λ_=>True):=by
 refine Pl Tryz.underlying93 Tryz.underlying374 (λb x w=> ?_) (λx y w=> ?_) (λx=> ?_)
 .obtain⟨n,hn⟩:∃n,10000=n+1+1+1:=⟨9997,rfl⟩;rw[hn];exact ac9 n b x w
 .obtain⟨d,hd⟩:∃d,Op.maxDepth=d+1+1+1:=⟨9997,by kernel_rfl⟩;unfold Op.equal;rw[hd];exact ac8 d x y w
 .simp[kM,pv,Instr.sameBits]
structure rv where
 p:av
 l:Nat
 c:Nat
def lD (q:rv):dB:=[af q.p q.l q.c]
theorem AO (q:rv):(lD q).length=1:=rfl
theorem Pp (q:rv):∀u∈lD q,u.oneCell'=true:=by simp[lD,Value.oneCell']
theorem Jy:fe au 91 192 aP 1 24:=⟨by kernel_rfl,by kernel_rfl,rfl,by decide⟩
theorem ada {O w:ao} {F:HP} {p:av} {l c i:Nat} {bj:List rv} (h:V O (aE 192 1 lD p l c bj*F) w) (hi:i<l) (hl:l<=100000): ae 154 #[af p l c,aa i,aa (i+1:Int)] w λv w'=>v=af p (l- 1) c/\V O (aE 192 1 lD p (l- 1) c (bj.eraseIdx i)*F) w':=by
 apply YD;have tu:=nK AO (by decide) h.left;have qW:V O (own 192 1 p l c (bj.flatMap lD)*F) w:=h;have mr:=qW.left.vJ;obtain⟨g,hg⟩:∃g,p=some (aD g):=by
  rcases Fv qW.left with⟨_,e⟩|⟨g,e⟩
  .omega
  .exact⟨g,e⟩
 subst hg;refine⟨⟨by omega,by omega,by omega,by omega⟩,aw (by simp;omega) ?_⟩;refine ur (hi:=(i:Int)) qW (by omega) (by omega) ?_;have hd:=h.drew;have px:=abD AO (by decide) hd.left (j:=i+1) (by omega);refine oI (by omega) (by omega) (by omega) ?_;have e1:((i:Int)+1).toNat=i+1:=by omega
 have e2:((l:Int)).toNat- ((i:Int)+1).toNat=l- (i+1):=by omega
 have e3:((i:Int)).toNat=i:=by omega
 rw[e2,e1,e3];have adb:=yD AO hd (show i<=l by omega);have hq:∃a,(if c=i+1 then some (aD g) else(aU g).map (·.add ((i+1)*1)))=some a:=by
  split
  .exact⟨_,rfl⟩
  .exact⟨_,rfl⟩
 obtain⟨a,ha⟩:=hq;rw[ha] at px ⊢;refine ac6 Jy (h:=(adb:V O (own 192 1 (aU g) i c ((bj.take i).flatMap lD)*F) w.drew)) px (yG Pp) (by omega) λw1 h1=> ?_;have el:i+(l- (i+1))=l- 1:=by omega
 rw[el] at h1 ⊢;have hf:(bj.take i).flatMap lD++(bj.drop (i+1)).flatMap lD=(bj.eraseIdx i).flatMap lD:=by rw[<-sW,List.eraseIdx_eq_take_drop_succ]
 rw[hf] at h1;refine oI (by omega) (by omega) (by omega) ?_;have e4:((l- 1:Nat):Int).toNat=l- 1:=by omega
 have e5:((l:Int)).toNat- ((l- 1:Nat):Int).toNat=1:=by omega
 have e6:(if c=((l- 1:Nat):Int).toNat then some (aD g) else(aU g).map (·.add (((l- 1:Nat):Int).toNat*1)))=some ⟨g,(l- 1)*1,none⟩:=by rw[e4,if_neg (by omega),qR,du,dc]
 rw[e5,e6];exact ac7 Jy (by simp[Value.cells,Value.oneCell']) h1 (by decide) (by omega) λw2 h2=>⟨rfl,h2⟩
structure NM where
 aR:Int
 row:List PK
 iG:xq->Option Int
 jv:Mark->Option Unit
structure l0 (M:NM) (n:Int):Prop where
 m0:1<=M.aR
 m1:M.aR<=65536
 len:(M.row.length:Int)<=M.aR
 row:∀x∈M.row,jb x/\iF x
 iG:∀r k,M.iG r=some k->0<=k/\k<=n
structure sw (ST:HP) (bj:List rv) (row:List PK):Prop where
 len:bj.length=row.length
 all:∀(i:Nat) (q:rv) (x:PK),bj[i]?=some q->row[i]?=some x->q.l=(fG x).length/\q.l<=q.c/\bd ST 1 q.p q.l (bc (fG x))
def nA (aR:Int) (p:av) (l c k1 k2:Nat):aM:=#[aa aR,af p l c,.map (some k1),.map (some k2)]
def vU (n:Int):Value:=ah n
def vN (_:Unit):Value:=an #[]
def tv (k:Nat) (f:xq->Option Int):HP:=gR kR vU (λ_=>True) k f
def sx (k:Nat) (f:Mark->Option Unit):HP:=gR kM vN (λ_=>True) k f
def gw (b:Nat) (M:NM):HP:=ex λST:HP=>ex λbj:List rv=>ex λp=>ex λc=>ex λk1=>ex λk2=>bM (sw ST bj M.row)*
 (ab b (nA M.aR p bj.length c k1 k2) 95*(aE 192 1 lD p bj.length c bj*(tv k1 M.iG*(sx k2 M.jv*ST))))
def nx (M:NM) (r:xq):Int:=(M.iG r).getD 0+1
def je (x:PK) (n:Int):PK:={x with sq:=n}
def sy (M:NM) (x:PK):NM×Int×Int:=
 if¬iF (je x (nx M (x.fr,x.to))) then(M,0,5) else
 if M.aR<=M.row.length then(M,0,3) else
 ({M with row:=M.row++[je x (nx M (x.fr,x.to))],iG:=fg M.iG (x.fr,x.to) (some (nx M (x.fr,x.to)))},nx M (x.fr,x.to),0)
theorem ade {x:PK} (hx:jb x) (hr:iF x):(fG x).length<=544:=by have h1:=((FP hx hr).mono (show 25<=30 by decide)).Jl;have h2:=(AH hx hr).1;have h3:=OL x.rs;rw[fG,gp];omega
section
variable {O w:ao} {F:HP} {b:Nat} {M:NM}
theorem gw.aK (h:V O (gw b M*F) w):∃ST bj p c k1 k2,sw ST bj M.row/\V O (ab b (nA M.aR p bj.length c k1 k2) 95*(aE 192 1 lD p bj.length c bj*(tv k1 M.iG*(sx k2 M.jv*(ST*F))))) w:=by obtain⟨ST,h⟩:=V.ex h;obtain⟨bj,h⟩:=V.ex h;obtain⟨p,h⟩:=V.ex h;obtain⟨c,h⟩:=V.ex h;obtain⟨k1,h⟩:=V.ex h;obtain⟨k2,h⟩:=V.ex h;have h:=h.a.p1.a.p1.a.p1.a.p1.a.p2.p3.p4.p5;exact⟨ST,bj,p,c,k1,k2,h.bM,h.right⟩
theorem gw.aI {ST:HP} {bj:List rv} {p:av} {c k1 k2 l:Nat} (hr:sw ST bj M.row) (h:V O (ab b (nA M.aR p l c k1 k2) 95*(aE 192 1 lD p l c bj*(tv k1 M.iG*(sx k2 M.jv*(ST*F))))) w) (hl:l=bj.length):V O (gw b M*F) w:=by subst hl;exact V.bO ST (V.bO bj (V.bO p (V.bO c (V.bO k1 (V.bO k2 ((h.eL hr).g5))))))
theorem sw.Pj {ST G:HP} {bj:List rv} {row:List PK} (h:sw ST bj row):sw (G*ST) bj row:=⟨h.len,λi q x h1 h2=>by obtain⟨a,b,c⟩:=h.all i q x h1 h2;exact⟨a,b,bd.right c⟩⟩
theorem sw.qp {ST:HP} {bj:List rv} {row:List PK} {q:rv} {x:PK} (h:sw ST bj row) (h1:q.l=(fG x).length) (h2:q.l<=q.c) (h3:bd ST 1 q.p q.l (bc (fG x))):sw ST (bj++[q]) (row++[x]):=by
 refine⟨by simp[h.len],λi q' x' hq hx=> ?_⟩;by_cases hi:i<bj.length
 .rw[r9 hi] at hq;rw[r9 (by rw[<-h.len];exact hi)] at hx;exact h.all i q' x' hq hx
 .rw[ix (by omega)] at hq;rw[ix (by rw[<-h.len];omega),<-h.len] at hx;have aQ:=(ct.1 hq).1;have e:i- bj.length=0:=by simp at aQ;omega
  rw[e] at hq hx;simp at hq hx;subst hq hx;exact⟨h1,h2,h3⟩
theorem sw.erase {ST:HP} {bj:List rv} {row:List PK} {k:Nat} (h:sw ST bj row):sw ST (bj.eraseIdx k) (row.eraseIdx k):=by
 refine⟨by rw[EG,EG,h.len],λi q x hq hx=> ?_⟩;rw[B6] at hq hx;split at hq
 .rename_i hi;rw[if_pos hi] at hx;exact h.all i q x hq hx
 .rename_i hi;rw[if_neg hi] at hx;exact h.all _ q x hq hx
theorem adf {aR:Int} (h:V O F w) (h0:1<=aR) (h1:aR<=65536):ae 48 #[aa aR] w λv w'=>∃b,v=ak #[al b,aa 0]/\V O (gw b ⟨aR,[],λ_=>none,λ_=>none⟩*F) w':=by apply Yx;refine aw (by simp;omega)<|aw (by simp;omega)<|xh kR vU (λ_=>True) h λk1 w1 h2=>xh kM vN (λ_=>True) h2 λk2 w2 h3=>aG h3 λk3 w3 h4=>⟨k3,rfl,?_⟩;refine gw.aI (ST:=cW) (bj:=[]) (p:=none) (c:=0) (k1:=k1) (k2:=k2) (l:=0) ⟨rfl,λi q x hq=>by simp at hq⟩ ?_ rfl;exact(fE 192 1 lD h4.cQ).aF (by show aE 192 1 lD none 0 0 []*(cW*(ab k3 (nA aR none 0 0 k1 k2) 95*(sx k2 (λ_=>none)*(tv k1 (λ_=>none)*F))))=_;ac_rfl)
theorem Jz (h:V O (gw b M*F) w):ae 12 #[al b] w λv w'=>w'=w/\v=aa M.row.length:=by apply Yw;obtain⟨ST,bj,p,c,k1,k2,hr,h1⟩:=gw.aK h;refine aw rfl<|aq<|aN (aB h1 (i:=1) rfl) ⟨rfl,by rw[hr.len]⟩
def oP (i:Int) (n:Nat):Int:=if i.tmod n<0 then i.tmod n+n else i.tmod n
theorem JA {i:Int} {n:Nat} (hn:0<n):0<=oP i n/\oP i n<n:=by
 have h4:=Int.tmod_lt_of_pos i (show(0:Int)<n by omega);have h5: -(n:Int)<i.tmod n:=by
  by_cases hx:0<=i
  .have:=Int.tmod_nonneg (n:Int) hx;omega
  .have h6:=Int.tmod_lt_of_pos (-i) (show(0:Int)<n by omega);rw[Int.neg_tmod] at h6;omega
 unfold oP;split<;>omega
theorem adg {i:Int} (h:V O (gw b M*F) w) (hl:M.row.length<=65536):ae 152 #[al b,aa i] w λv w'=>w'=w/\ ((M.row=[]/\v=ak #[aa 0,aa 12])\/(M.row≠[]/\v=ak #[aa (oP i M.row.length),aa 0])):=by
 apply YB;refine ay (Jz h) ?_;rintro _ w1 ⟨rfl,rfl⟩;refine bI<|cy (λh0=>⟨rfl,.inl ⟨?_,rfl⟩⟩) (λh0=> ?_)
 .have h0:(M.row.length:Int)=0:=by simpa using h0
  exact m5 (by omega)
 .have h0:¬(M.row.length:Int)=0:=by simpa using h0
  have cp:M.row≠[]:=λe=>h0 (by rw[e];rfl);obtain⟨ST,bj,p,c,k1,k2,hr,h1⟩:=gw.aK h;have hp:=JA (i:=i) (n:=M.row.length) (by omega);have c1:=aB h1 (i:=1) (v:=af p bj.length c) rfl;refine aq<|aN c1 ?_;rw[hr.len] at c1 ⊢;refine⟨by omega,bU (λaQ=>aq<|aN c1<|aY ?_ ?_ ⟨rfl,.inr ⟨cp,?_⟩⟩) (λbW=>⟨rfl,.inr ⟨cp,?_⟩⟩)⟩
  .unfold oP at hp;rw[if_pos aQ] at hp;omega
  .unfold oP at hp;rw[if_pos aQ] at hp;omega
  .rw[oP,if_pos aQ]
  .rw[oP,if_neg bW]
theorem FX {P:Program} {t k e:TypeId} {κ ν:Type} [DecidableEq κ] {kf:κ->Value} {vf:ν->Value} {S:κ->Prop} {r:Nat} {f:κ->Option ν} (T:oM P t k e kf S) {x:κ} {z:Value} {K:Value->Prop} (h:V O (gR kf vf S r f*F) w) (hx:S x) (hz:(zeroValue e).run P w=.ok z w) (hk:K ((f x).elim z vf)):nG P t (some r) (kf x) false w K:=by refine xj T h hx hz ?_;rw[if_neg (by decide)];revert hk;cases f x<;>exact id
theorem JB {P:Program} {t k e:TypeId} {κ ν:Type} [DecidableEq κ] {kf:κ->Value} {vf:ν->Value} {S:κ->Prop} {r:Nat} {f:κ->Option ν} (T:oM P t k e kf S) {x:κ} {z:Value} {K:Value->Prop} (h:V O (gR kf vf S r f*F) w) (hx:S x) (hz:(zeroValue e).run P w=.ok z w) (hk:K (ak #[(f x).elim z vf,aC (f x).isSome])):nG P t (some r) (kf x) true w K:=by refine xj T h hx hz ?_;rw[if_pos rfl];revert hk;cases f x<;>exact id
theorem adh {s:Option Int} {K:Int->Prop} (h:K (s.getD 0)):bp .u64 (s.elim (ah 0) vU) K:=by cases s<;>exact bI h
theorem adi {x:PK} {p:av} {l c:Nat} {n:Int} (h:V O (gw b M*F) w) (hM:l0 M n) (hn:n<=10000) (hx:jb x) (gx:bd F 36 p l (x.rs.flatMap cS)) (hl:l<=4611686018427387904): ae 96 #[al b,an (bC x (af p l c))] w λv w'=>v=ak #[ah (sy M x).2.1,aa (sy M x).2.2]/\V O (gw b (sy M x).1*F) w':=by
 apply YA;refine aG h λk1 w1 h1=> ?_;have h1:V O (ab k1 (bC x (af p l c)) 150*(gw b M*F)) w1:=h1;refine aw rfl<|az (n:=x.fr) (aB h1 (i:=1) rfl)<|az (n:=x.to) (aB h1 (i:=2) rfl)<|aG h1 λk4 w2 h2=>bL h2 rfl rfl (by simp[Value.oneCell']) λw3 h3=> ?_;have h3:V O (gw b M*(ab k4 (nh (x.fr,x.to)) 372*(ab k1 (bC x (af p l c)) 150*F))) w3.drew:=h3.drew.aF (by show ab k4 (nh (x.fr,x.to)) 372*_=_;ac_rfl);obtain⟨ST,bj,pr,cr,m1,m2,hr,h4⟩:=gw.aK h3;have adj:0<=(M.iG (x.fr,x.to)).getD 0/\(M.iG (x.fr,x.to)).getD 0<=10000:=by
  cases hs:M.iG (x.fr,x.to) with
  |none=>simp
  |some k=>have:=hM.iG _ _ hs;simp only[Option.getD_some];omega
 have h4m:=h4.right.right;refine aq<|kK (aB h4 (i:=2) rfl)<|bz (h4.right.right.right.right.right) rfl<|FX Po (x:=(x.fr,x.to)) h4m trivial (show(zeroValue 26).run au w3.drew=.ok (ah 0) w3.drew by kernel_rfl) ?_;obtain⟨fh,JC⟩:∃fh,fh=nx M (x.fr,x.to):=⟨_,rfl⟩;have amx:1<=fh/\fh<=10001:=by rw[JC,nx];omega
 refine adh (s:=M.iG (x.fr,x.to)) ?_;refine fx (by omega) (by omega)<|bD (i:=3) (h3.p2) (tk (by decide)) λw4 h5=> ?_;have en:(M.iG (x.fr,x.to)).getD 0+1=fh:=by rw[JC,nx]
 rw[en] at h5;have e3:(bC x (af p l c)).setIfInBounds 3 (ah fh)=bC (je x fh) (af p l c):=by rw[tl 3 (by decide)];rfl
 rw[e3] at h5;have h5:V O (ab k1 (bC (je x fh) (af p l c)) 150*(gw b M*(ab k4 (nh (x.fr,x.to)) 372*F))) w4:=h5;have gY:jb (je x fh):=⟨hx.kd,hx.fr,hx.to,⟨by show 0<=fh;omega,by show fh<=18446744073709551615;omega⟩,hx.cl,hx.ip,hx.rk,hx.md,hx.n,hx.cd⟩;have Pq:bd (ab k1 (bC (je x fh) (af p l c)) 150*(gw b M*(ab k4 (nh (x.fr,x.to)) 372*F))) 36 p l ((je x fh).rs.flatMap cS):=bd.right (bd.right (bd.right gx));rw[sy,<-JC];refine mw h5 gY.ip ?_;by_cases uD:iF (je x fh)
 .rw[if_neg (λq=>q uD)];refine ay (OO h5 gY uD Pq hl) ?_;rintro _ w5 ⟨uE,d13,rfl,h6⟩;have mr:=(show V O (own 5 1 uE (fG (je x fh)).length d13 (bc (fG (je x fh)))) w5 from h6.left).vJ;have h6:=h6.drew;obtain⟨ST,bj,pr,cr,m1,m2,hr,h7⟩:=gw.aK (h6.p2);refine⟨_,_,_,_,rfl,aw rfl<|aq<|aN (aB h7 (i:=1) rfl)<|aq<|az (n:=M.aR) (aB h7 (i:=0) rfl)<|bU (λbW=> ?_) (λaQ=> ?_)⟩
  .rw[if_pos (by rw[<-hr.len];exact bW)];refine⟨rfl,?_⟩;exact(gw.aI hr h7 rfl).p3.p3.p3.g2|>.right
  .rw[if_neg (by rw[<-hr.len];exact aQ)];have CV:=hM.m1;refine aq<|aN (aB h7 (i:=1) rfl)<|aG h7 λvQ w6 h8=> ?_;refine ju Jy AO (by decide) Pp (x:=(⟨uE,(fG (je x fh)).length,d13⟩:rv)) (h8.p6.p5.p5.p4.p5.p5) rfl (by simp only[maxLen];omega) (by omega) λp' c' w7 h9=> ?_;refine aq<|bD (i:=1) (h9.p1) (by simp[nA]) λw8 aV=> ?_;have aV:V O (ab b (nA M.aR p' (bj.length+1) c' m1 m2) 95*(aE 192 1 lD p' (bj.length+1) c' (bj++[⟨uE,(fG (je x fh)).length,d13⟩])*(tv m1 M.iG*(sx m2 M.jv*(own 5 1 uE (fG (je x fh)).length d13 (bc (fG (je x fh)))*(ST*(ab k1 (bC (je x fh) (af p l c)) 150*(ab k4 (nh (x.fr,x.to)) 372*F)))))))) w8.drew:=V.drew aV;refine aq<|kK (aB aV (i:=2) rfl)<|bz (aV.right.right.right.right.right.right.right) rfl<|az (n:=fh) (aB aV.right.right.right.right.right.right (i:=3) rfl)<|xk (v:=fh) Po (x:=(x.fr,x.to)) (aV.p2) trivial λw9 bu=> ?_;have bu:V O (tv m1 (fg M.iG (x.fr,x.to) (some fh))*(ab b (nA M.aR p' (bj.length+1) c' m1 m2) 95*(aE 192 1 lD p' (bj.length+1) c' (bj++[⟨uE,(fG (je x fh)).length,d13⟩])*(sx m2 M.jv*(own 5 1 uE (fG (je x fh)).length d13 (bc (fG (je x fh)))*(ST*(ab k1 (bC (je x fh) (af p l c)) 150*(ab k4 (nh (x.fr,x.to)) 372*F)))))))) w9:=bu;refine az (n:=fh) (aB bu.right.right.right.right.right.right (i:=3) rfl) ⟨rfl,?_⟩;refine gw.aI (M:={M with row:=M.row++[je x fh],iG:=fg M.iG (x.fr,x.to) (some fh)}) (ST:=own 5 1 uE (fG (je x fh)).length d13 (bc (fG (je x fh)))*ST) (p:=p') (c:=c') (k1:=m1) (k2:=m2) (l:=bj.length+1) (hr.Pj.qp (q:=⟨uE,(fG (je x fh)).length,d13⟩) rfl mr (bd.left bd.own)) ?_ (by simp);exact(bu.aF (B:=(ab k1 (bC (je x fh) (af p l c)) 150*ab k4 (nh (x.fr,x.to)) 372)*(ab b (nA M.aR p' (bj.length+1) c' m1 m2) 95*(aE 192 1 lD p' (bj.length+1) c' (bj++[⟨uE,(fG (je x fh)).length,d13⟩])*(tv m1 (fg M.iG (x.fr,x.to) (some fh))*(sx m2 M.jv*((own 5 1 uE (fG (je x fh)).length d13 (bc (fG (je x fh)))*ST)*F)))))) (by ac_rfl)).right
 .rw[if_pos uD];refine ay (ON h5 gY uD Pq hl) ?_;rintro _ w5 ⟨rfl,h6⟩;refine⟨_,_,_,_,rfl,aW rfl ⟨rfl,?_⟩⟩;exact(h6.p2.p1.g1).right
end
def kU (x:Int):Value:=ah x
def uF (x:Int):Value:=aH x
theorem AP:oM au 502 26 108 kU (λ_=>True):=AE (by kernel_rfl) (by kernel_rfl)
def uG (r:Nat) (f:Int->Option Int):HP:=gR kU uF (λ_=>True) r f
def hW (k r:Nat) (f:Int->Option Int):HP:=ab k #[aH 4294967295,.map (some r)] 504*uG r f
def ry (f:Int->Option Int) (k c:Int):Int->Option Int:=if c=0 then fg f k none else fg f k (some c)
section
variable {O w:ao} {F:HP} {k r:Nat} {f:Int->Option Int}
theorem adl (h:V O F w):ae 342 #[aH 4294967295] w λv w'=>∃k r,v=al k/\V O (hW k r (λ_=>none)*F) w':=by apply WB;exact xh kU uF (λ_=>True) h λr w1 h1=>aG h1 λk w2 h2=>⟨k,r,rfl,h2.aF (by unfold hW uG;ac_rfl)⟩
theorem JD {key:Int} (h:V O (hW k r f*F) w):ae 164 #[al k,ah key] w λv w'=>w'=w/\v=aH ((f key).getD 0):=by apply Wg;have h1:=h.aF (B:=ab k #[aH 4294967295,.map (some r)] 504*(uG r f*F)) (by unfold hW;ac_rfl);refine aw rfl<|aq<|kK (aB h1 (i:=1) rfl)<|FX (kf:=kU) (vf:=uF) (S:=λ_=>True) AP (x:=key) h1.right trivial (show(zeroValue 108).run au w=.ok (aH 0) w by kernel_rfl) ?_;cases f key<;>exact bI ⟨rfl,rfl⟩
theorem Pr {key c:Int} (h:V O (hW k r f*F) w):ae 253 #[al k,ah key,aH c] w λv w'=>v=aH c/\V O (hW k r (ry f key c)*F) w':=by
 apply Wq;have h1:=h.aF (B:=ab k #[aH 4294967295,.map (some r)] 504*(uG r f*F)) (by unfold hW;ac_rfl);have h2:=h.aF (B:=uG r f*(ab k #[aH 4294967295,.map (some r)] 504*F)) (by unfold hW;ac_rfl);refine cy (λe=> ?_) (λe=> ?_)
 .have e:c=0:=by simpa using e
  refine aq<|kK (aB h1 (i:=1) rfl)<|Ji (kf:=kU) (vf:=uF) (S:=λ_=>True) AP (x:=key) rfl h2 trivial λw1 h3=>⟨rfl,?_⟩;rw[ry,if_pos e];exact V.aF h3 (by unfold hW uG;ac_rfl)
 .have e:c≠0:=by simpa using e
  refine aq<|kK (aB h1 (i:=1) rfl)<|xk (kf:=kU) (vf:=uF) (S:=λ_=>True) (v:=c) AP (x:=key) h2 trivial λw1 h3=>⟨rfl,?_⟩;rw[ry,if_neg e];exact V.aF h3 (by unfold hW uG;ac_rfl)
theorem Ps {key n:Int} (h:V O (hW k r f*F) w) (h0:0<=(f key).getD 0) (hn:0<=n) (hs:(f key).getD 0+n<=4294967295): ae 247 #[al k,ah key,aH n] w λv w'=>v=ak #[aH ((f key).getD 0+n),aa 0]/\V O (hW k r (ry f key ((f key).getD 0+n))*F) w':=by apply Wl;refine ay (JD (key:=key) h) ?_;rintro _ _ ⟨rfl,rfl⟩;have h1:=h.aF (B:=ab k #[aH 4294967295,.map (some r)] 504*(uG r f*F)) (by unfold hW;ac_rfl);refine bI<|aw rfl<|aq<|az (n:=4294967295) (aB h1 (i:=0) rfl)<|gX (by omega) (by omega)<|aw (by simp;omega)<|gX (by omega) (by omega)<|ay (Pr h) ?_;rintro _ w2 ⟨rfl,h2⟩;exact bI ⟨rfl,h2⟩
theorem JE {key n:Int} (h:V O (hW k r f*F) w) (hr:(f key).getD 0<=4294967295) (hn:0<=n): ae 165 #[al k,ah key,aH n] w λv w'=>((f key).getD 0<n/\v=ak #[aH ((f key).getD 0),aa 4]/\w'=w)\/ (n<=(f key).getD 0/\v=ak #[aH ((f key).getD 0- n),aa 0]/\V O (hW k r (ry f key ((f key).getD 0- n))*F) w'):=by apply Wh;refine ay (JD (key:=key) h) ?_;rintro _ _ ⟨rfl,rfl⟩;refine bI<|aw rfl<|bU (λhg=>.inl ⟨by omega,rfl,rfl⟩) (λhg=>gX (by omega) (by omega)<|ay (Pr h) ?_);rintro _ w2 ⟨rfl,h2⟩;exact bI (.inr ⟨by omega,rfl,h2⟩)
end
def sA (x:Int):Value:=aa x
theorem yN:oM au 200 26 3 kU (λ_=>True):=AE (by kernel_rfl) (by kernel_rfl)
def AQ (r:Nat) (f:Int->Option Int):HP:=gR kU sA (λ_=>True) r f
def dK (k r:Nat) (tm bX:Int) (f:Int->Option Int):HP:=ab k #[aa tm,aa bX,.map (some r)] 202*AQ r f
section
variable {O w:ao} {F:HP} {k r:Nat} {tm bX:Int} {f:Int->Option Int}
theorem Pt {p m:Int} (h:V O F w) (h0:1<=p/\p<=1000) (h1:1<=m/\m<=1000):ae 38 #[aa p,aa m] w λv w'=>∃k r,v=ak #[al k,aa 0]/\V O (dK k r (p*m) 0 (λ_=>none)*F) w':=by apply V9;have h2:0<=p*m:=Int.mul_nonneg (by omega) (by omega);have h3:p*m<=1000*1000:=Int.mul_le_mul h0.2 h1.2 (by omega) (by decide);exact aw (by simp;omega)<|aw (by simp;omega)<|aw (by simp;omega)<|aw (by simp;omega)<|aY (by omega) (by omega)<|xh kU sA (λ_=>True) h λr w1 h4=>aG h4 λk w2 h5=>⟨k,r,rfl,h5.aF (by unfold dK AQ;ac_rfl)⟩
theorem dK.b (h:V O (dK k r tm bX f*F) w):V O (ab k #[aa tm,aa bX,.map (some r)] 202*(AQ r f*F)) w:=h.aF (by unfold dK;ac_rfl)
theorem dK.m (h:V O (dK k r tm bX f*F) w):V O (AQ r f*(ab k #[aa tm,aa bX,.map (some r)] 202*F)) w:=h.aF (by unfold dK;ac_rfl)
theorem dK.jK (h:V O (AQ r f*(ab k #[aa tm,aa bX,.map (some r)] 202*F)) w):V O (dK k r tm bX f*F) w:=h.aF (by unfold dK;ac_rfl)
theorem Pu {key:Int} (h:V O (dK k r tm bX f*F) w):ae 248 #[al k,ah key] w λv w'=>w'=w/\v=aC (f key).isSome:=by apply Wm;refine aw rfl<|aq<|kK (aB (dK.b h) (i:=2) rfl)<|JB (kf:=kU) (vf:=sA) (S:=λ_=>True) yN (x:=key) (dK.m h) trivial (show(zeroValue 3).run au w=.ok (aa 0) w by kernel_rfl) ?_;cases f key<;>exact⟨_,_,rfl,rfl,rfl⟩
theorem adm {key:Int} (h:V O (dK k r tm bX f*F) w):ae 201 #[al k,ah key] w λv w'=>v=aC (!(f key).isSome)/\V O (dK k r tm bX (fg f key (some bX))*F) w':=by apply Wk;refine aw rfl<|ay (Pu (key:=key) h) ?_;rintro _ _ ⟨rfl,rfl⟩;have h:=h.drew;exact cR<|aq<|kK (aB (dK.b h) (i:=2) rfl)<|aq<|az (n:=bX) (aB (dK.b h) (i:=1) rfl)<|xk (kf:=kU) (vf:=sA) (S:=λ_=>True) (v:=bX) yN (x:=key) (dK.m h) trivial λw1 h3=>⟨rfl,dK.jK h3⟩
theorem adn (h:V O (dK k r tm bX f*F) w):ae 94 #[al k] w λv w'=>w'=w/\v=aa bX:=by apply Wb;exact aw rfl<|aq<|az (n:=bX) (aB (dK.b h) (i:=1) rfl) ⟨rfl,rfl⟩
end
theorem Pv {r:Option Nat} {K:Option Nat->Prop} (h:K r):z5 (.map r) K:=⟨r,rfl,h⟩
theorem Pw {P:Program} {t xT k e:TypeId} {v:Value} {w:ao} (h:P.underlying t=some (.map k e)):(Instr.typeAssert (.iface t v) xT t false).run P w=.ok v w:=by simp[Instr.typeAssert,run_underlying h,Result.andThen]
theorem ado {P:Program} {r:Nat} {es:Array MapEntry} {ck:Nat} {w:ao} (t:TypeId) (hb:w.heap[r]?=some (.map es ck)): (Extern.MapsClone.clone #[.iface t (.map (some r))]).run P w=.ok (.iface t (.map (some w.heap.size))) (w.alloc (.map es ck)):=by
 have e:Extern.MapsClone.clone #[.iface t (.map (some r))]=(getObj r>>= λo=>match o with
   |.map entries clock=>(newObj (.map entries clock)>>= λn=>pure (.iface t (.map (some n))))
   |_=>stuck "maps.clone: a map expected"):=rfl
 rw[e];simp only[Sem.run_bind,xi hb,Result.andThen_ok];rfl
theorem Pz {r:Nat} {es:Array MapEntry} {ck:Nat} {w:ao} {t:TypeId} {R:nE} (hb:w.heap[r]?=some (.map es ck)) (hk:R (.iface t (.map (some w.heap.size))) (w.alloc (.map es ck))): EU au 316 #[.iface t (.map (some r))] w R:=by refine⟨_,_,?_,hk⟩;rw[run_callFunc_extern Tryz.func316 (by kernel_rfl) (by kernel_rfl) (by kernel_rfl) (e:=Extern.MapsClone.clone) (by kernel_rfl),ado t hb];rfl
section
variable {O w:ao} {F:HP} {r ck:Nat} {a:Array MapEntry}
theorem adp (hb:w.heap[r]?=some (.map a ck)) (h:V O F w):ae 373 #[.map (some r)] w λv w'=>∃r',v=.map (some r')/\V O (ob r' (.map a ck)*F) w':=by apply abg;exact aw rfl<|Pz hb<|⟨_,Pw AP.ht,_,rfl,_,rfl,h.alloc _⟩
theorem adq (hb:w.heap[r]?=some (.map a ck)) (h:V O F w):ae 250 #[.map (some r)] w λv w'=>∃r',v=.map (some r')/\V O (ob r' (.map a ck)*F) w':=by apply abe;exact aw rfl<|Pz hb<|⟨_,Pw yN.ht,_,rfl,_,rfl,h.alloc _⟩
end
section
variable {O w:ao} {F:HP} {P:Program} {it r ck:Nat} {a:Array MapEntry} {e:MapEntry}
theorem PB {t k e:TypeId} {es:Array MapEntry} (ht:P.underlying t=some (.map k e)) (hb:w.heap[r]?=some (.map es ck)):(Instr.range t (.map (some r))).run P w=.ok (al w.heap.size) (w.alloc (.mapIter (some r) ck #[] ck)):=by simp only[Instr.range,Sem.run_bind,run_underlying ht,Result.andThen_ok,xi hb];rfl
theorem PC {ty:TypeId} (hi:w.heap[it]?=some (.mapIter (some r) ck #[] ck)) (hb:w.heap[r]?=some (.map #[] ck)):(Instr.next (al it) false ty).run P w=.ok (ak #[aC false]) w:=by simp[Instr.next,getObj,Sem.run,hi,hb,choose,Question.forced]
theorem PD {ty:TypeId} (he:e.born<ck) (hi:w.heap[it]?=some (.mapIter (some r) ck #[] ck)) (hb:w.heap[r]?=some (.map #[e] ck)):(Instr.next (al it) false ty).run P w=.ok (ak #[aC true,e.key,e.val]) (w.putObj it (.mapIter (some r) ck #[e.born] ck)):=by
 have h1:¬ck<=e.born:=by omega
 simp[Instr.next,getObj,setObj,Sem.run,hi,hb,choose,Question.forced,he,h1,World.putObj]
theorem PE {ty:TypeId} (he:e.born<ck) (hi:w.heap[it]?=some (.mapIter (some r) ck #[e.born] ck)) (hb:w.heap[r]?=some (.map #[e] ck)):(Instr.next (al it) false ty).run P w=.ok (ak #[aC false]) w:=by
 have h1:¬ck<=e.born:=by omega
 simp[Instr.next,getObj,setObj,Sem.run,hi,hb,choose,Question.forced,he,h1]
theorem PF (hi:w.heap[it]?=some (.mapIter (some r) ck #[e.born] ck)) (hb:w.heap[r]?=some (.map #[e] ck)):(Instr.entry (al it)).run P w=.ok (ak #[e.key,e.val]) w:=by simp[Instr.entry,getObj,Sem.run,hi,hb]
end
theorem ads {O:ao} {k r ck:Nat} {a:Array MapEntry} {m:List (Int×Int)} {bG:Nat->HP} (hm:m.length<=1) (ha:a.toList.map (λe=>(e.key,e.val))=m.map λp=>(kU p.1,sA p.2)) (hb:∀e∈a.toList,e.born<ck) (hP:∀j w,V O (bG j) w->w.cell? (aD k)=some (.map (some r))/\w.heap[r]?=some (.map a ck)): iD au O 318 #[al k] bG (m.map λp=>#[kU p.1]):=by
 intro f b c B Bx cA hB hy F w h;show ae _ #[.func f b c,al k] w _;apply abf;have hp:=hP 0 w (hB 0 w h.left);refine kK hp.1 ⟨(aD w.heap.size),w.alloc (.mapIter (some r) ck #[] ck),PB yN.ht hp.2,?_⟩;have h1:=h.alloc (.mapIter (some r) ck #[] ck);revert h1;generalize w.heap.size=it;generalize w.alloc (.mapIter (some r) ck #[] ck)=w1;intro h1;match m,hm,ha,hy with
 |[],_,ha,_=>
  have ea:a=#[]:=by simpa using ha
  subst ea;refine⟨λw m=>m=0/\V O (ob it (.mapIter (some r) ck #[] ck)*(B 0*F)) w,⟨0,rfl,h1⟩,?_⟩;rintro _ w2 m ⟨rfl,h2⟩;exact .inl ⟨_,PC h2.ob (hP 0 _ (hB 0 _ h2.right.left)).2,.inl h2.right⟩
 |[p],_,ha,hy=>
  obtain⟨e,rfl,hk⟩:∃e:MapEntry,a=#[e]/\e.key=kU p.1:=by
   obtain⟨l⟩:=a;cases l with
   |nil=>simp at ha
   |cons e l=>
    cases l with
    |nil=>simp only[jo,zU,List.cons.injEq,Prod.mk.injEq,and_true] at ha;exact⟨e,rfl,ha.1⟩
    |cons _ _=>simp at ha
  have he:=hb e (by simp);refine⟨λw m=>(m=1/\V O (ob it (.mapIter (some r) ck #[] ck)*(B 0*F)) w)\/(m=0/\V O (ob it (.mapIter (some r) ck #[e.born] ck)*(B 1*F)) w),⟨1,.inl ⟨rfl,h1⟩⟩,?_⟩;rintro _ w2 m (⟨rfl,h2⟩|⟨rfl,h2⟩)
  .have h3:=h2.putObj (.mapIter (some r) ck #[e.born] ck);refine .inr ⟨_,_,_,PD he h2.ob (hP 0 _ (hB 0 _ h2.right.left)).2,_,_,PF h3.ob (hP 0 _ (hB 0 _ h3.right.left)).2,?_⟩;rw[hk];refine nH (hy 0 #[kU p.1] rfl (ob it (.mapIter (some r) ck #[e.born] ck)*F) _ (h3.p1)) ?_;rintro v w5 (⟨rfl,h5⟩|⟨rfl,h5⟩)
   .exact cR<|aw rfl ⟨0,by decide,.inr ⟨rfl,h5.aF (by ac_rfl)⟩⟩
   .exact cR<|aW rfl<|.inr ((h5.p1).right)
  .exact .inl ⟨_,PE he h2.ob (hP 1 _ (hB 1 _ h2.right.left)).2,.inl h2.right⟩
theorem adt {O:ao} {k r ck:Nat} {a:Array MapEntry} {m:List (Int×Int)} {bG:Nat->HP} (hm:m.length<=1) (ha:a.toList.map (λe=>(e.key,e.val))=m.map λp=>(kU p.1,uF p.2)) (hb:∀e∈a.toList,e.born<ck) (hP:∀j w,V O (bG j) w->w.cell? (aD k)=some (.map (some r))/\w.heap[r]?=some (.map a ck)): iD au O 409 #[al k] bG (m.map λp=>#[kU p.1]):=by
 intro f b c B Bx cA hB hy F w h;show ae _ #[.func f b c,al k] w _;apply abh;have hp:=hP 0 w (hB 0 w h.left);refine kK hp.1 ⟨(aD w.heap.size),w.alloc (.mapIter (some r) ck #[] ck),PB AP.ht hp.2,?_⟩;have h1:=h.alloc (.mapIter (some r) ck #[] ck);revert h1;generalize w.heap.size=it;generalize w.alloc (.mapIter (some r) ck #[] ck)=w1;intro h1;match m,hm,ha,hy with
 |[],_,ha,_=>
  have ea:a=#[]:=by simpa using ha
  subst ea;refine⟨λw m=>m=0/\V O (ob it (.mapIter (some r) ck #[] ck)*(B 0*F)) w,⟨0,rfl,h1⟩,?_⟩;rintro _ w2 m ⟨rfl,h2⟩;exact .inl ⟨_,PC h2.ob (hP 0 _ (hB 0 _ h2.right.left)).2,.inl h2.right⟩
 |[p],_,ha,hy=>
  obtain⟨e,rfl,hk⟩:∃e:MapEntry,a=#[e]/\e.key=kU p.1:=by
   obtain⟨l⟩:=a;cases l with
   |nil=>simp at ha
   |cons e l=>
    cases l with
    |nil=>simp only[jo,zU,List.cons.injEq,Prod.mk.injEq,and_true] at ha;exact⟨e,rfl,ha.1⟩
    |cons _ _=>simp at ha
  have he:=hb e (by simp);refine⟨λw m=>(m=1/\V O (ob it (.mapIter (some r) ck #[] ck)*(B 0*F)) w)\/(m=0/\V O (ob it (.mapIter (some r) ck #[e.born] ck)*(B 1*F)) w),⟨1,.inl ⟨rfl,h1⟩⟩,?_⟩;rintro _ w2 m (⟨rfl,h2⟩|⟨rfl,h2⟩)
  .have h3:=h2.putObj (.mapIter (some r) ck #[e.born] ck);refine .inr ⟨_,_,_,PD he h2.ob (hP 0 _ (hB 0 _ h2.right.left)).2,_,_,PF h3.ob (hP 0 _ (hB 0 _ h3.right.left)).2,?_⟩;rw[hk];refine nH (hy 0 #[kU p.1] rfl (ob it (.mapIter (some r) ck #[e.born] ck)*F) _ (h3.p1)) ?_;rintro v w5 (⟨rfl,h5⟩|⟨rfl,h5⟩)
   .exact cR<|aw rfl ⟨0,by decide,.inr ⟨rfl,h5.aF (by ac_rfl)⟩⟩
   .exact cR<|aW rfl<|.inr ((h5.p1).right)
  .exact .inl ⟨_,PE he h2.ob (hP 1 _ (hB 1 _ h2.right.left)).2,.inl h2.right⟩
end Go.Proofs.YtjhnnnfnkjighaaGreatDoor
