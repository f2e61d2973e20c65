/- Whole: a part of the proof. No conditions. -/
import Derived.Test.YtjhnnnfnkjighaaGreatDoorQ07
import Derived.Deep.Slices
import Derived.ProofKit
import Derived.OpenShut
import Derived.SizedLaws
set_option linter.unusedVariables false
set_option linter.unusedSimpArgs false
set_option maxRecDepth 100000
namespace Go.Sp
open Go.RowKit
section
variable {O w:World} {F:HP} {t:TypeId} {sz:Nat} {p:Option Addr} {l c:Nat} {xs:List Value} {α:Type} {f:α->List Value} {ys:List α}
theorem Fu {l':Nat} (h:V O (own t sz p l c xs*F) w) (hl:l'<=l):V O (own t sz p l' c (xs.take (l'*sz))*F) w:=by
 have wV:=h.left.so;have hm:=pT sz hl;refine h.imp λk a=> ?_;obtain⟨_,a⟩:=a;refine⟨by rw[fB];omega,?_⟩;rcases a with⟨rfl,rfl,rfl⟩|⟨g,cur,rfl,hg,h1,h2,h3,h4⟩
 .exact .inl ⟨rfl,by omega,rfl⟩
 .exact .inr ⟨g,cur,rfl,hg,by omega,h2,h3,by rw[<-h4,List.take_take];congr 1;omega⟩
theorem Fv (h:V O (own t sz p l c xs) w):(p=none/\l=0)\/∃g,p=some (aD g):=by
 rcases h.po.2 with⟨e,hl⟩|⟨g,cap,cur,e,_⟩
 .cases e;exact .inl ⟨rfl,hl⟩
 .cases e;exact .inr ⟨g,rfl⟩
theorem ur {hi:Int} {K:Option Addr->Nat->Nat->Prop} (h:V O (own t sz p l c xs*F) w) (h1:0<=hi) (h2:hi<=l) (hk:K p hi.toNat c):fD p c sz 0 hi K:=by
 have hc:=h.left.vJ;refine oI (by omega) h1 (by omega) ?_;have e:(if c=Int.toNat 0 then p else p.map (·.add (Int.toNat 0*sz)))=p:=by
  split
  .rfl
  .cases p with
   |none=>rfl
   |some a=>simp[add_zero]
 rw[e];simpa using hk
def aE (t:TypeId) (sz:Nat) (f:α->List Value) (p:Option Addr) (l c:Nat) (ys:List α):HP:=own t sz p l c (ys.flatMap f)
theorem td (hf:∀y,(f y).length=sz) (ys:List α):(ys.flatMap f).length=ys.length*sz:=by
 induction ys with
 |nil=>simp
 |cons y ys ih=>rw[jE,gp,hf,ih,iB,pd];omega
theorem Fw (hf:∀y,(f y).length=sz):∀{ys:List α} {i:Nat} {y:α} {j:Nat},ys[i]?=some y->j<sz->(ys.flatMap f)[i*sz+j]?=(f y)[j]?
 |[],i,y,j,h,_=>by simp at h
 |z::ys,0,y,j,h,hj=>by simp only[B3,Option.some.injEq] at h;subst h;rw[jE,Nat.zero_mul,dc,r9 (by rw[hf];exact hj)]
 |z::ys,i+1,y,j,h,hj=>by rw[jE,ix (by rw[hf,pd];omega),hf,show(i+1)*sz+j- sz=i*sz+j by rw[pd];omega];exact Fw hf (by simpa using h) hj
theorem IN (hf:∀y,(f y).length=sz) {y':α} {j:Nat} {v:Value}:∀{ys:List α} {i:Nat} {y:α},ys[i]?=some y->j<sz->f y'=(f y).set j v->(ys.flatMap f).set (i*sz+j) v=(ys.set i y').flatMap f
 |[],i,y,h,_,_=>by simp at h
 |z::ys,0,y,h,hj,he=>by simp only[B3,Option.some.injEq] at h;subst h;rw[Cd,jE,jE,Nat.zero_mul,dc,List.set_append_left _ _ (by rw[hf];exact hj),he]
 |z::ys,i+1,y,h,hj,he=>by rw[zO,jE,jE,lp _ _ (by rw[hf,pd];omega),hf,show(i+1)*sz+j- sz=i*sz+j by rw[pd];omega];rw[IN hf (by simpa using h) hj he]
theorem N5 (hf:∀y,(f y).length=sz):∀(ys:List α) (n:Nat),(ys.flatMap f).take (n*sz)=(ys.take n).flatMap f
 |[],n=>by simp
 |y::ys,0=>by simp
 |y::ys,n+1=>by rw[jE,Ca,jE,wI,hf,eW (by rw[hf,pd];omega),show(n+1)*sz- sz=n*sz by rw[pd];omega,N5 hf]
theorem nK (hf:∀y,(f y).length=sz) (hs:0<sz) (h:V O (aE t sz f p l c ys) w):ys.length=l:=by have h1:V O (own t sz p l c (ys.flatMap f)) w:=h;have h2:=h1.so;rw[td hf] at h2;exact Nat.eq_of_mul_eq_mul_right hs h2
theorem dC (hf:∀y,(f y).length=sz) {i:Int} {y:α} {K:Addr->Prop} (h:V O (aE t sz f p l c ys) w) (hs:0<sz) (h0:0<=i) (hy:ys[i.toNat]?=some y) (hk:∀g,p=some (aD g)->K ⟨g,i.toNat*sz,none⟩):ba p l i sz K:=by
 have hl:=nK hf hs h;have aQ:=(ct.1 hy).1;have h1:V O (own t sz p l c (ys.flatMap f)) w:=h;rcases Fv h1 with⟨_,e⟩|⟨g,rfl⟩
 .omega
 .refine fM h1.rd h0 (by omega) λa e=> ?_;cases e;have:=hk g rfl;rw[du,dc];exact this
theorem cU (hf:∀y,(f y).length=sz) {g i j:Nat} {y:α} {v:Value} (h:V O (aE t sz f p l c ys) w) (hp:p=some (aD g)) (hy:ys[i]?=some y) (hj:j<sz) (hv:(f y)[j]?=some v): w.cell? ((⟨g,i*sz,none⟩:Addr).add j)=some v:=by have h1:V O (own t sz p l c (ys.flatMap f)) w:=h;have h2:=h1.IA hp ((Fw hf hy hj).trans hv);rw[du,dc] at h2;rw[du];exact h2
theorem g8 (hf:∀y,(f y).length=sz) {g i j:Nat} {y y':α} {v:Value} {K:World->Prop} (h:V O (aE t sz f p l c ys*F) w) (hp:p=some (aD g)) (hy:ys[i]?=some y) (hj:j<sz) (he:f y'=(f y).set j v) (hk:∀w',V O (aE t sz f p l c (ys.set i y')*F) w'->K w'):st ((⟨g,i*sz,none⟩:Addr).add j) v w K:=by
 subst hp;have aQ:=(ct.1 hy).1;have e:(⟨g,i*sz,none⟩:Addr).add j=⟨g,i*sz+j,none⟩:=by rw[du]
 rw[e];have hm:i*sz+sz<=ys.length*sz:=by rw[<-Nat.succ_mul];exact pT _ aQ
 refine IM (h:V O (own t sz _ l c (ys.flatMap f)*F) w) (by rw[td hf];omega) λw' h'=>hk w' ?_;rw[IN hf hy hj he] at h';exact h'
theorem ju {P:Program} {st ty t':TypeId} {z:Value} {bytes k:Nat} (T:fe P st t z sz bytes) (hf:∀y,(f y).length=sz) (hs:0<sz) (h1:∀y,∀u∈f y,u.oneCell'=true) {x:α} {cs:Array Value} {K:Option Addr->Nat->Nat->World->Prop} (h:V O (ab k cs t'*(aE t sz f p l c ys*F)) w) (dT:cs=(f x).toArray) (ra:l+1<=maxLen) (hb:(l+1)*bytes<=140737488355328) (hk:∀p' c' w',V O (aE t sz f p' (l+1) c' (ys++[x])*F) w'->K p' (l+1) c' w'): bR P (Builtin.append_ #[st,st] ty #[.slice p l c,.slice (aU k) 1 1]) w K:=by subst dT;refine lW (m:=1) T (h.right:V O (own t sz p l c (ys.flatMap f)*F) w) (h.left.uk (l:=1) (sz:=sz) (by simp[hf])) (by simpa using h1 x) ra hb λp' c' w' h'=>hk p' c' w' ?_;rw[aE,sW];simpa using h'
theorem yD (hf:∀y,(f y).length=sz) {n:Nat} (h:V O (aE t sz f p l c ys*F) w) (hl:n<=l):V O (aE t sz f p n c (ys.take n)*F) w:=by have:=Fu (h:V O (own t sz p l c (ys.flatMap f)*F) w) hl;rw[N5 hf] at this;exact this
theorem fE (t:TypeId) (sz:Nat) (f:α->List Value) (h:V O F w):V O (aE t sz f none 0 0 []*F) w:=h.iZ t sz
end
def bS (y:Int):List Value:=[ah y]
def dm (y:Nat):List Value:=[aa y]
theorem gL (y:Int):(bS y).length=1:=rfl
theorem iN (y:Nat):(dm y).length=1:=rfl
theorem uu (y:Int):∀u∈bS y,u.oneCell'=true:=by simp[bS,Value.oneCell']
theorem Ap (y:Nat):∀u∈dm y,u.oneCell'=true:=by simp[dm,Value.oneCell']
theorem abB (x y:Nat) (hx:x<2^64) (hy:y<2^64):gr .or .u64 (x:Int) (y:Int)=((x|||y:Nat):Int):=by
 have e:∀z:Nat,z<2^64->(BitVec.ofInt 64 (z:Int)).toNat=z:=by intro z hz;rw[BitVec.ofInt_natCast,BitVec.toNat_ofNat,zQ hz]
 have CC:(x|||y)<2^64:=Nat.or_lt_two_pow hx hy;show IntKind.u64.wrap ((BitVec.ofInt 64 (x:Int)|||BitVec.ofInt 64 (y:Int)).toNat:Int)=_;rw[BitVec.toNat_or,e x hx,e y hy,s9]
 .simp[IntKind.min,IntKind.signed]
 .simp only[IntKind.max,IntKind.signed,IntKind.bits];have:((x|||y:Nat):Int)<2^64:=by exact_mod_cast CC
  simp only[lS,if_false];omega
theorem yE {x b i:Nat} (hx:x<2^i) (hb:b*2^i<2^64) (re:x<2^64):gr .or .u64 ((b*2^i:Nat):Int) (x:Int)=((x+b*2^i:Nat):Int):=by rw[abB _ x hb re];congr 1;have:=Ex hx b;rw[Nat.shiftLeft_eq] at this;rw[<-this,Nat.add_comm]
theorem yF {x:Int} {n:Nat} {K:Int->Prop} (h0:0<=x) (hn:n<=64) (h1:x*2^n<=18446744073709551615) (hk:K (x*2^n)):shl .u64 x (n:Int) K:=by
 refine⟨by omega,?_⟩;have e:min (n:Int).toNat IntKind.u64.bits=n:=by simp only[IntKind.bits];omega
 rw[e,s9]
 .exact hk
 .simp only[IntKind.min,IntKind.signed,lS,if_false];exact Int.mul_nonneg h0 (Int.pow_nonneg (by omega))
 .simpa[IntKind.max,IntKind.signed,IntKind.bits] using h1
theorem Aq {e:Int} {K:Int->Prop} (hk:K (e%4294967296)):arith .u32 e K:=by
 unfold arith;have:IntKind.u32.wrap e=e%4294967296:=by simp[IntKind.wrap,IntKind.signed,IntKind.bits]
 rw[this];exact hk
theorem As {O w:World} {F:HP} {P:Program} {b o n:Nat} {cs vs:Array Value} {t:TypeId} {K:World->Prop} (h:V O (ab b cs t*F) w) (hc:o+n<=cs.size) (hv:vs.size=n) (h1:∀u∈vs.toList,u.oneCell'=true) (hk:∀w',V O (ab b (cs.toList.take o++vs.toList++cs.toList.drop (o+n)).toArray t*F) w'->K w'):aS P ((aD b).add o) n vs w K:=by
 rw[du,dc];refine⟨hv,_,run_storeCells_at P b o t vs.toList 0 cs w h.ob (by simp;omega) h1,hk _ ?_⟩;have hb:=h.ob;have e:(cs.toList.take (o+0)++vs.toList++cs.toList.drop (o+0+vs.toList.length)).toArray=(cs.toList.take o++vs.toList++cs.toList.drop (o+n)).toArray:=by simp[hv]
 rw[e];refine h.step rfl rfl rfl (by simp[World.setRow]) ?_;intro h1 a hw;refine⟨λx=>if x=b then some (.cells (cs.toList.take o++vs.toList++cs.toList.drop (o+n)).toArray t (0,0)) else none,by simp[Sp.ob],?_,?_,?_⟩
 .intro x ob e;dsimp only at e;split at e
  .rename_i e';subst e';cases e;exact setRow_heap w x cs _ t _ hb
  .cases e
 .intro x ob e e1;dsimp only at e;split at e
  .rename_i e';subst e';have a':h1 x=_:=a;rw[a'] at e1;cases e1
  .cases e
 .intro x ob e1 hx;have cp:x≠b:=by rintro rfl;have a':h1 x=_:=a;rw[a'] at e1;cases e1
  rw[setRow_other w b x _ cp];exact hx
theorem lY {a:Addr} {n:Nat} {i:Int} {sz:Nat} {K:Addr->Prop} (h0:0<=i) (h1:i<(n:Int)) (hk:K (a.add (i.toNat*sz))):j5 a n i sz K:=⟨⟨h0,h1⟩,hk⟩
section
variable {O w:World} {F:HP} {t:TypeId} {sz:Nat} {p:Option Addr} {l c:Nat} {α:Type} {f:α->List Value} {ys:List α}
theorem ff {k o n:Nat} {cs:Array Value} {fr:Nat×Nat} {K:Array Value->Prop} (h:V O (ob k (.cells cs t fr)*F) w) (ho:o+n<=cs.size) (hk:K (cs.extract o (o+n))):aA ((aD k).add o) n w K:=by
 refine oF (by simp;omega) (λi hi=> ?_) hk;rw[du,du,dc];have hb:=h.ob;rw[ED];have e:min (o+n) cs.size- o=n:=by omega
 rw[e,if_pos hi];simp[World.cell?,hb]
theorem bz {k n:Nat} {cs:Array Value} {fr:Nat×Nat} {K:Array Value->Prop} (h:V O (ob k (.cells cs t fr)*F) w) (hn:cs.size=n) (hk:K cs):aA (aD k) n w K:=by subst hn;refine oF rfl (λi hi=> ?_) hk;rw[du,dc];have hb:=h.ob;simp[World.cell?,hb]
theorem wZ (hf:∀y,(f y).length=sz) {g i o n:Nat} {y:α} {vs:List Value} {K:Array Value->Prop} (h:V O (aE t sz f p l c ys) w) (hp:p=some (aD g)) (hy:ys[i]?=some y) (ho:o+n<=sz) (hv:((f y).drop o).take n=vs) (hk:K vs.toArray):aA ((⟨g,i*sz,none⟩:Addr).add o) n w K:=by
 subst hv;have hl:=hf y;refine oF (by simp;omega) (λj hj=> ?_) hk;have e:(f y)[o+j]?=some ((f y)[o+j]'(by omega)):=by simp[show o+j<(f y).length by omega]
 rw[jG,cU hf h hp hy (by omega) e];rw[kI,vp,if_pos hj,qP,e]
theorem vK (hf:∀y,(f y).length=sz) {g i:Nat} {y:α} {K:Array Value->Prop} (h:V O (aE t sz f p l c ys) w) (hp:p=some (aD g)) (hy:ys[i]?=some y) (hk:K (f y).toArray): aA (⟨g,i*sz,none⟩:Addr) sz w K:=by have:=wZ hf (o:=0) (n:=sz) (K:=K) h hp hy (by omega) rfl (by rw[m9,eW (by rw[hf];exact eJ _)];exact hk);rwa[Sp.add_zero] at this
theorem abC {P:Program} {g j n:Nat} {xs:List Value} {vs:Array Value} {K:World->Prop} (h:V O (own t sz (aU g) l c xs*F) w) (hj:j+n<=xs.length) (hv:vs.size=n) (h1:∀u∈vs.toList,u.oneCell'=true) (hk:∀w',V O (own t sz (aU g) l c (xs.take j++vs.toList++xs.drop (j+n))*F) w'->K w'):aS P ⟨g,j,none⟩ n vs w K:=by
 have wV:=h.left.so;obtain⟨cur,h2,hle,oH,dT,yC⟩:∃cur,V O (ab g cur t*F) w/\l<=c/\c<=maxLen/\cur.size=c*sz/\cur.toList.take (l*sz)=xs:=by
  obtain⟨k,hk,h1,h2,ha,s1,s2,⟨_,a⟩,b⟩:=h.heap;rcases a with⟨e,_,_⟩|⟨g',cur,e,hg,h3,h4,h5,h6⟩
  .cases e
  .cases e;exact⟨cur,⟨h.os,h.tape,h.output,h.size,k,hk,h1,h2,ha,s1,s2,hg,b⟩,h3,h4,h5,h6⟩
 have CB:l*sz<=c*sz:=pT _ hle;have dk:=As (P:=P) (o:=j) (n:=n) (K:=K) h2 (by rw[dT];omega) hv h1 λw' h3=>hk w' (h3.imp λk a=>⟨?_,.inr ⟨g,_,rfl,a,hle,oH,?_,?_⟩⟩)
 .rw[du,dc] at dk;exact dk
 .simp[wV,hv];omega
 .simp[hv];omega
 .have j8:cur.toList.length=c*sz:=by simp[dT]
  have N6:vs.toList.length=n:=by simp[hv]
  show(cur.toList.take j++vs.toList++cur.toList.drop (j+n)).take (l*sz)=_;rw[<-yC];rw[List.take_take,Nat.min_eq_left (by omega),wI,eW (l:=cur.toList.take j++vs.toList) (by simp only[gp,fB,j8,N6];omega)];congr 1;rw[List.drop_take];congr 1;simp only[gp,fB,j8,N6];omega
theorem N8 (hf:∀y,(f y).length=sz) {y':α} {o n:Nat} {vs:List Value}:∀{ys:List α} {i:Nat} {y:α},ys[i]?=some y->o+n<=sz->f y'=(f y).take o++vs++(f y).drop (o+n)->vs.length=n-> (ys.flatMap f).take (i*sz+o)++vs++(ys.flatMap f).drop (i*sz+o+n)=(ys.set i y').flatMap f
 |[],i,y,h,_,_,_=>by simp at h
 |z::ys,0,y,h,ho,he,hv=>by
  simp only[B3,Option.some.injEq] at h;subst h;have hz:=hf z;rw[Cd,jE,jE,he,Nat.zero_mul,dc,wI,ub];have e1:o- (f z).length=0:=by omega
  have e2:o+n- (f z).length=0:=by omega
  rw[e1,e2,qT,jS,m9];simp only[iy]
 |z::ys,i+1,y,h,ho,he,hv=>by
  have hz:=hf z;rw[zO,jE,jE,<-N8 hf (by simpa using h) ho he hv,wI,ub,pd,Nat.one_mul];have e1:i*sz+sz+o- (f z).length=i*sz+o:=by omega
  have e2:i*sz+sz+o+n- (f z).length=i*sz+o+n:=by omega
  rw[e1,e2,eW (l:=f z) (by omega),mJ (l:=f z) (by omega),m8];simp only[iy]
theorem rh {P:Program} (hf:∀y,(f y).length=sz) {g i o n:Nat} {y y':α} {vs:Array Value} {K:World->Prop} (h:V O (aE t sz f p l c ys*F) w) (hp:p=some (aD g)) (hy:ys[i]?=some y) (ho:o+n<=sz) (hv:vs.size=n) (h1:∀u∈vs.toList,u.oneCell'=true) (he:f y'=(f y).take o++vs.toList++(f y).drop (o+n)) (hk:∀w',V O (aE t sz f p l c (ys.set i y')*F) w'->K w'):aS P ((⟨g,i*sz,none⟩:Addr).add o) n vs w K:=by
 subst hp;have aQ:=(ct.1 hy).1;have e:(⟨g,i*sz,none⟩:Addr).add o=⟨g,i*sz+o,none⟩:=by rw[du]
 rw[e];have hm:i*sz+sz<=ys.length*sz:=by rw[<-Nat.succ_mul];exact pT _ aQ
 refine abC (h:V O (own t sz _ l c (ys.flatMap f)*F) w) (by rw[td hf];omega) hv h1 λw' h'=>hk w' ?_;rw[N8 hf hy ho he (by simp[hv])] at h';exact h'
theorem aB {k i:Nat} {cs:Array Value} {v:Value} {fr:Nat×Nat} (h:V O (ob k (.cells cs t fr)*F) w) (hv:cs[i]?=some v):w.cell? ((aD k).add i)=some v:=by rw[du,dc];simp[World.cell?,h.ob,hv]
theorem Fx {k o:Nat} {cs:Array Value} {vs:Array Value} {fr:Nat×Nat} {X:Prop} (h:V O (ob k (.cells cs t fr)*F) w) (hv:∀i,i<vs.size->cs[o+i]?=vs[i]?) (hX:X):qb (cellsOf ((aD k).add o) vs) w X:=by
 have h1:∀q∈cellsOf ((aD k).add o) vs,w.cell? q.1=some q.2:=by refine ES.2 λj hj=> ?_;rw[du,du,dc];rw[<-hv j hj];simp[World.cell?,h.ob]
 revert h1;generalize cellsOf ((aD k).add o) vs=S;intro h1;induction S with
 |nil=>exact hX
 |cons q S ih=>exact⟨h1 q (.head _),ih λr hr=>h1 r (.tail _ hr)⟩
theorem IP {k:Nat} {cs:Array Value} {fr:Nat×Nat} {X:Prop} (h:V O (ob k (.cells cs t fr)*F) w) (hX:X):qb (cellsOf (aD k) cs) w X:=by have:=Fx (o:=0) (vs:=cs) h (λi _=>by rw[dc]) hX;rwa[Sp.add_zero] at this
theorem yG (h1:∀y,∀u∈f y,u.oneCell'=true):∀u∈ys.flatMap f,u.oneCell'=true:=by intro u hu;obtain⟨y,_,hu⟩:=zR.1 hu;exact h1 y u hu
theorem xc {P:Program} {st ty:TypeId} {z:Value} {bytes:Nat} (T:fe P st t z sz bytes) (hf:∀y,(f y).length=sz) (h1:∀y,∀u∈f y,u.oneCell'=true) {q:Option Addr} {m d:Nat} {zs:List α} {K:Option Addr->Nat->Nat->World->Prop} (h:V O (aE t sz f p l c ys*F) w) (hx:Rd w sz q m (zs.flatMap f)) (ra:l+m<=maxLen) (hb:(l+m)*bytes<=140737488355328) (hk:∀p' c' w',V O (aE t sz f p' (l+m) c' (ys++zs)*F) w'->K p' (l+m) c' w'): bR P (Builtin.append_ #[st,st] ty #[.slice p l c,.slice q m d]) w K:=by refine lW T (h:V O (own t sz p l c (ys.flatMap f)*F) w) hx (yG h1) ra hb λp' c' w' h'=>hk p' c' w' ?_;rw[aE,sW];exact h'
end
section
variable {α:Type} {f:α->List Value} {O w:World} {t:TypeId} {sz l c j:Nat} {p:Option Addr} {ys:List α}
theorem abD (hf:∀y,(f y).length=sz) (hs:0<sz) (h:V O (aE t sz f p l c ys) w) (hj:j<=l):Rd w sz (if c=j then p else p.map (·.add (j*sz))) (l- j) ((ys.drop j).flatMap f):=by
 have hl:=nK hf hs h;have hR:Rd w sz p l (ys.flatMap f):=V.rd (t:=t) (c:=c) (h:V O (own t sz p l c (ys.flatMap f)) w);have mr:=(h:V O (own t sz p l c (ys.flatMap f)) w).vJ;have:=hR.sub (lo:=j) (hi:=l) (c:=c) (by omega) (by omega) mr;have e2:((ys.flatMap f).drop (j*sz)).take ((l- j)*sz)=(ys.drop j).flatMap f:=by
  have e3:ys.flatMap f=(ys.take j).flatMap f++(ys.drop j).flatMap f:=by rw[<-sW,mK]
  rw[e3,ub,mJ (by rw[td hf,fB];exact pT _ (Nat.min_le_left _ _)),td hf,m8,fB,Nat.min_eq_left (by omega),yl,m9,eW (by rw[td hf,sc,hl];exact eJ _)]
 rw[e2] at this;exact this
end
end Go.Sp
namespace Go.Proofs.YtjhnnnfnkjighaaGreatDoor
open Go.Sp Go.RowKit
def lA (n:Int):aJ:=[0,0,0,0,0,0,0,0,n/ 72057594037927936%256,n/ 281474976710656%256,n/ 1099511627776%256,n/ 4294967296%256,n/ 16777216%256,n/ 65536%256,n/ 256%256,n%256]
def ri (n:Int) (j:Nat):aJ:=List.replicate (16- j) 0++(lA n).drop (16- j)
def gA (l:aJ):aM:=(bc l).toArray
theorem N9 (n:Int) (j:Nat) (h:j<=8):(ri n j).length=16:=by
 match j,h with
 |0,_=>rfl
 |1,_=>rfl
 |2,_=>rfl
 |3,_=>rfl
 |4,_=>rfl
 |5,_=>rfl
 |6,_=>rfl
 |7,_=>rfl
 |8,_=>rfl
theorem abE (n:Int) (j:Nat) (h:j<8):(gA (ri n j)).setIfInBounds (15- j) (.int .u8 ((n/ 2^(8*j))%256))=gA (ri n (j+1)):=by
 match j,h with
 |0,_=>simp[gA,ri,lA,bc,List.replicate]
 |1,_=>simp[gA,ri,lA,bc,List.replicate]
 |2,_=>simp[gA,ri,lA,bc,List.replicate]
 |3,_=>simp[gA,ri,lA,bc,List.replicate]
 |4,_=>simp[gA,ri,lA,bc,List.replicate]
 |5,_=>simp[gA,ri,lA,bc,List.replicate]
 |6,_=>simp[gA,ri,lA,bc,List.replicate]
 |7,_=>simp[gA,ri,lA,bc,List.replicate]
theorem iO {l:aJ} (h:l.length=16):(gA l).size=16:=by simp[gA,dh,h]
section
variable {O w:ao} {F:HP}
theorem IQ {n:Int} (h:V O F w):ae 136 #[ah n] w λv w'=>v=an (gA (lA n))/\V O F w':=by
 apply Wc;refine aG h λk1 w1 h1=>aG h1 λk2 w2 h2=> ?_;refine⟨λi w m=>∃j:Nat,i=j/\j<=8/\m=8- j/\V O (ab k2 (gA (ri n j)) 30*(ab k1 (gA (ri n 0)) 30*F)) w,⟨_,0,rfl,by decide,rfl,h2⟩,?_⟩;clear h1 h2;rintro u _ w3 m ⟨j,rfl,hj,rfl,h3⟩;have hs:=iO (N9 n j hj);refine bU (λaQ=> ?_) (λbW=> ?_)
 .have IS:j<8:=by omega
  refine aY (by omega) (by omega)<|aY (by omega) (by omega)<|uq (by omega) (by show(8*(j:Int))<=64;omega)<|qn<|lY (by omega) (by omega) ?_;have e1:((15:Int)- j).toNat*1=15- j:=by omega
  have e2:(8*(j:Int)).toNat=8*j:=by omega
  rw[e1,e2,du,dc];refine bD (i:=15- j) h3 (by omega) λw4 h4=>aY (by omega) (by omega) ⟨_,?_,j+1,by omega,by omega,rfl,?_⟩
  .omega
  .rw[abE n j IS] at h4;exact h4
 .have e:j=8:=by omega
  subst e;refine bz h3 hs<|bL (h3.p1) (iO (N9 n 0 (by decide))) hs (λu hu=>jt _ u (by simpa[gA] using hu)) λw5 h5=>bz h5 hs ⟨rfl,h5.right.right⟩
end
theorem CD:fe au 192 5 (ar) 1 1:=⟨by kernel_rfl,by kernel_rfl,rfl,by decide⟩
def rj (n:Int):Bool:=n==1||n==2||n==4||n==8
theorem Oa {n:Int} (h:rj n=true):n=1\/n=2\/n=4\/n=8:=by simp[rj] at h;omega
theorem Ob (n:Int):kN au 311 #[aa n] (aC (rj n)):=by intro w;apply YQ;refine cy (λh=> ?_) (λh=>cy (λh2=> ?_) (λh2=>cy (λh3=> ?_) (λh3=> ?_)))<;>exact⟨by simp[rj, *],rfl⟩
def lB (a s:Int):Int:=(s- a%s)%s
theorem Fy {a s:Int} (hs:1<=s):0<=lB a s/\lB a s<s:=⟨Int.emod_nonneg _ (by omega),Int.emod_lt_of_pos _ (by omega)⟩
theorem Oc (a s:Int) (ha:0<=a) (hs:1<=s) (wO:s<=8):kN au 312 #[aa a,aa s] (aa (lB a s)):=by intro w;apply YR;have h1:=Int.emod_nonneg a (show s≠0 by omega);have h2:=Int.emod_lt_of_pos a (show 0<s by omega);refine uo ha (by omega) (aY (by omega) (by omega) (uo (by omega) (by omega) ⟨rfl,rfl⟩))
theorem Od {O w:ao} {F:HP} {p:av} {l c:Nat} {xs:aJ} (h:V O F w) (hx:bd F 1 p l (bc xs)) (hl:l<=140737488355328): ae 310 #[af p l c] w λv w'=>∃q d,v=af q l d/\V O (own 5 1 q l d (bc xs)*F) w':=by
 apply YP;cases p with
 |none=>
  have Ff:l=0:=Nat.eq_zero_of_not_pos λhp=>by obtain⟨a,e⟩:=(hx _ _ h).2.1 hp;cases e
  subst Ff;have:xs=[]:=m5 (hx _ _ h).wX;subst this;exact⟨none,0,rfl,h.iZ _ _⟩
 |some a=>refine aw rfl (aG h λb w1 h1=> ?_);have h2:V O (own 5 1 (aU b) 0 0 []*F) w1:=h1.lx (n:=0) (by simp) (by simp[maxLen]);refine lW CD h2 (hx _ _ h2.right) (jt _) (by simp only[maxLen];omega) (by omega) λp' c' w' h3=> ?_;exact⟨p',c',by simp,by simpa using h3⟩
def Wr (g:Nat) (bs:aJ):HP:=ex λp=>ex λl=>ex λc=>ab g #[af p l c] 607*own 5 1 p l c (bc bs)
theorem Wr.aK {O w:ao} {F:HP} {g:Nat} {bs:aJ} (h:V O (Wr g bs*F) w):∃p c,V O (ab g #[af p bs.length c] 607*(own 5 1 p bs.length c (bc bs)*F)) w:=by obtain⟨p,h⟩:=V.ex h;obtain⟨l,h⟩:=V.ex h;obtain⟨c,h⟩:=V.ex h;have:=Fq h.left.right;subst this;exact⟨p,c,h.a⟩
theorem Wr.aI {O w:ao} {F:HP} {g:Nat} {bs:aJ} {p:av} {l c:Nat} (h:V O (ab g #[af p l c] 607*(own 5 1 p l c (bc bs)*F)) w):V O (Wr g bs*F) w:=V.bO p (V.bO l (V.bO c (h.g1)))
theorem Oe {O w:ao} {F:HP} (h:V O F w): ae 260 #[] w λv w'=>∃g,v=al g/\V O (Wr g []*F) w':=by apply YL;refine aG h λb w1 h1=> ?_;have h2:=h1.iZ 5 1;exact⟨b,rfl,Wr.aI (p:=none) (l:=0) (c:=0) (bs:=[]) (h2.aF (by simp only[bc,zU];ac_rfl))⟩
def lay (n:Int):Nat->aJ
 |0=>[]
 |k+1=>n%256::lay (n/ 256) k
def lC (aj:Nat) (n size:Int):aJ:=List.replicate (lB aj size).toNat 0++lay n size.toNat
theorem Of (n:Int):∀k,lay n (k+1)=lay n k++[n/ 256^k%256]
 |0=>by simp[lay]
 |k+1=>by rw[lay,Of (n/ 256) k,lay];simp only[pX,List.cons.injEq,true_and,List.append_cancel_left_eq,and_true];rw[Int.ediv_ediv_of_nonneg (by omega),Int.pow_succ,Int.mul_comm]
theorem qo (n:Int):∀k,(lay n k).length=k
 |0=>rfl
 |k+1=>by simp[lay,qo]
theorem CE {O w:ao} {F:HP} {g:Nat} {bs:aJ} {n size:Int} (h:V O (Wr g bs*F) w) (hf:rj size=true) (h0:0<=n) (hr:n<256^size.toNat) (hb:bs.length<=1099511627776): ae 261 #[al g,ah n,aa size] w λv w'=>v=aa 0/\V O (Wr g (bs++lC bs.length n size)*F) w':=by
 have hs:=Oa hf;have hg:=Fy (a:=bs.length) (s:=size) (by omega);apply YM;refine⟨λw'=>w'=w,?_,?_⟩
 .refine aw rfl (fY (Ob size) ⟨true,by rw[hf],aw rfl (bU (λaQ=> ?_) (λbW=>rfl))⟩);refine aY (by omega) (by omega) (uq (by omega) (by simp[IntKind.bits];omega) (aw ?_ rfl));have e:(2:Int)^(8*size).toNat=256^size.toNat:=by rcases hs with rfl|rfl|rfl|rfl<;>decide
  rw[e];have:n/ 256^size.toNat=0:=Int.ediv_eq_zero_of_lt h0 hr;simp[this]
 .rintro u w1 rfl;obtain⟨p,c,h⟩:=Wr.aK h;have h:=h.drew;have hc:=h.left.cell (i:=0) rfl;refine aN hc (aN hc (fY (Oc _ _ (by omega) (by omega) (by omega)) ⟨_,rfl,hc,?_⟩));obtain⟨m,hm⟩:∃m:Nat,lB bs.length size=m:=⟨(lB bs.length size).toNat,by omega⟩;rw[hm];have h':=h.p1;refine abm CD (tn:=3) (by kernel_rfl) (by simp[Value.cells,Value.oneCell']) h' (by omega) (by omega) λp1 c1 w1 h1=> ?_;rw[abr,<-pt] at h1;refine aq (bD (i:=0) (h1.p1) (by simp) λw2 h2=> ?_);refine⟨λi w' k=>0<=i/\i<=size/\k=(size- i).toNat/\V O (Wr g (bs++List.replicate m 0++lay n i.toNat)*F) w',⟨size.toNat,by omega,by omega,by omega,?_⟩,?_⟩
  .refine Wr.aI (p:=p1) (l:=bs.length+m) (c:=c1) (h2.aF ?_);simp[lay]
  .rintro u i w3 k ⟨CF,Og,rfl,h3⟩;refine bU (λaQ=> ?_) (λbW=> ?_)
   .obtain⟨p3,c3,h3⟩:=Wr.aK h3;have h3:=h3.drew;refine aN (h3.left.cell (i:=0) rfl) ?_;refine aY (by omega) (by omega) (uq (by omega) (by simp[IntKind.bits];omega) (qn ?_));have e:(2:Int)^(8*i).toNat=256^i.toNat:=by
     have:i=0\/i=1\/i=2\/i=3\/i=4\/i=5\/i=6\/i=7:=by omega
     rcases this with rfl|rfl|rfl|rfl|rfl|rfl|rfl|rfl<;>decide
    rw[e];refine aG h3 λb w4 h4=> ?_;have eB:(bs++List.replicate m 0++lay n i.toNat).length=bs.length+m+i.toNat:=by simp[qo];omega
    refine oG CD (h4.aF (by rw[Fb (ab g _ _)])) rfl (by simp only[maxLen];omega) (by omega) λp5 c5 w5 h5=> ?_;refine aq (bD (i:=0) (h5.p1) (by simp) λw6 h6=> ?_);refine aY (by omega) (by omega) ⟨(size- (i+1)).toNat,by omega,by omega,by omega,rfl,?_⟩;refine Wr.aI (p:=p5) (l:=(bs++List.replicate m 0++lay n i.toNat).length+1) (c:=c5) (h6.aF ?_);have e2:(i+1).toNat=i.toNat+1:=by omega
    rw[e2,Of,<-iy,pt _ [_]];rfl
   .have:i=size:=by omega
    subst this;refine⟨rfl,?_⟩;rw[lC,hm];simpa[iy] using h3
theorem IT (a:Nat) (n size:Int) (h:1<=size):(lC a n size).length=(lB a size).toNat+size.toNat:=by simp[lC,qo]
theorem Oh {O w:ao} {F:HP} {g:Nat} {bs:aJ} (h:V O (Wr g bs*F) w) (hb:bs.length<=140737488355328): ae 262 #[al g] w λv w'=>∃q d,v=af q bs.length d/\V O (own 5 1 q bs.length d (bc bs)*(Wr g bs*F)) w':=by apply YN;obtain⟨p,c,h1⟩:=Wr.aK h;refine aw rfl (aq (aN (h1.left.cell (i:=0) rfl) (ay (Od h1 (bd.right (bd.left bd.own)) hb) ?_)));rintro _ w1 ⟨q,d,rfl,h2⟩;refine iE ⟨q,d,rfl,?_⟩;refine(Wr.aI (p:=p) (l:=bs.length) (c:=c) (F:=own 5 1 q bs.length d (bc bs)*F) (bs:=bs) (h2.p2.p2)).p1
def Oi (p:av) (n c:Nat) (bs:aJ):HP:=own 5 1 p (n+4) c (bc (bs++[90,91,92,93]))
theorem Oi.CG {p:av} {n c:Nat} {bs:aJ} (hn:bs.length=n):bd (Oi p n c bs) 1 p n (bc bs):=by intro O w hs;have h:=hs.rd;refine⟨by rw[dh];omega,λ_=>h.2.1 (by omega),λa e j u hj=> ?_⟩;refine h.2.2 a e j u ?_;rw[pt,r9 (by rw[dh];have:=(ct.1 hj).1;rw[dh] at this;omega)];exact hj
def le:aJ->Int
 |[]=>0
 |b::r=>b+256*le r
theorem abF (a:aJ) (b:Int):le (a++[b])=le a+256^a.length*b:=by
 induction a with
 |nil=>simp[le]
 |cons x a ih=>simp only[pX,le,ih,iB,Int.pow_succ,Int.mul_add,Int.add_assoc];congr 2;rw[<-Int.mul_assoc,Int.mul_comm 256]
theorem CH (a:aJ) (h:∀b∈a,0<=b/\b<=255):0<=le a/\le a<256^a.length:=by
 induction a with
 |nil=>simp[le]
 |cons x a ih=>have h1:=h x (.head _);have h2:=ih λb hb=>h b (.tail _ hb);simp only[le,iB,Int.pow_succ];omega
theorem IU (n:Int):∀k,0<=n->n<256^k->le (lay n k)=n
 |0,h0,h1=>by simp[lay,le] at*;omega
 |k+1,h0,h1=>by rw[Int.pow_succ] at h1;rw[lay,le,IU (n/ 256) k (by omega) (by omega)];omega
theorem xd (n:Int):∀k,∀b∈lay n k,0<=b/\b<=255
 |0=>by simp[lay]
 |k+1=>by
  intro b hb;simp only[lay,pa] at hb;rcases hb with rfl|hb
  .omega
  .exact xd _ k b hb
theorem Oj (x y:Nat) (hx:x<2^64) (hy:y<2^64):gr .or .u64 (x:Int) (y:Int)=((x|||y:Nat):Int):=by
 have e:∀z:Nat,z<2^64->(BitVec.ofInt 64 (z:Int)).toNat=z:=by intro z hz;rw[BitVec.ofInt_natCast,BitVec.toNat_ofNat,zQ hz]
 have CC:(x|||y)<2^64:=Nat.or_lt_two_pow hx hy;show IntKind.u64.wrap ((BitVec.ofInt 64 (x:Int)|||BitVec.ofInt 64 (y:Int)).toNat:Int)=_;rw[BitVec.toNat_or,e x hx,e y hy,s9]
 .simp[IntKind.min,IntKind.signed]
 .simp only[IntKind.max,IntKind.signed,IntKind.bits];have:((x|||y:Nat):Int)<2^64:=by exact_mod_cast CC
  simp only[lS,if_false];omega
theorem abG {x b i:Nat} (hx:x<2^i) (hb:b*2^i<2^64) (re:x<2^64):gr .or .u64 (x:Int) ((b*2^i:Nat):Int)=((x+b*2^i:Nat):Int):=by rw[Oj x _ re hb];congr 1;have:=Ex hx b;rw[Nat.shiftLeft_eq] at this;rw[Nat.or_comm,<-this,Nat.add_comm]
def lZ (bs:aJ) (aj:Nat) (size:Int):Int×Nat×Int:=
 if rj size=false then(0,aj,1) else
 let k:=aj+(lB aj size).toNat
 if bs.length<k+size.toNat then(0,aj,6) else
 if((bs.drop aj).take (lB aj size).toNat).all (·==0)=false then(0,aj,5) else
 (le ((bs.drop k).take size.toNat),k+size.toNat,0)
def gj (g:Nat) (bs:aJ) (aj:Nat):HP:=ex λp=>ex λl=>ex λc=>ab g #[af p l c,aa aj] 583*own 5 1 p l c (bc bs)
theorem gj.aK {O w:ao} {F:HP} {g aj:Nat} {bs:aJ} (h:V O (gj g bs aj*F) w):∃p c,V O (ab g #[af p bs.length c,aa aj] 583*(own 5 1 p bs.length c (bc bs)*F)) w:=by obtain⟨p,h⟩:=V.ex h;obtain⟨l,h⟩:=V.ex h;obtain⟨c,h⟩:=V.ex h;have:=Fq h.left.right;subst this;exact⟨p,c,h.a⟩
theorem gj.aI {O w:ao} {F:HP} {g aj:Nat} {bs:aJ} {p:av} {l c:Nat} (h:V O (ab g #[af p l c,aa aj] 583*(own 5 1 p l c (bc bs)*F)) w):V O (gj g bs aj*F) w:=V.bO p (V.bO l (V.bO c (h.g1)))
theorem Ok {O w:ao} {F:HP} {p:av} {l c:Nat} {bs:aJ} (h:V O F w) (hx:bd F 1 p l (bc bs)) (hl:l<=140737488355328): ae 240 #[af p l c] w λv w'=>∃g,v=al g/\V O (gj g bs 0*F) w':=by apply YE;refine ay (Od h hx hl) ?_;rintro _ w1 ⟨q,d,rfl,h1⟩;exact iE<|aG h1 λb w2 h2=>⟨b,rfl,gj.aI h2⟩
theorem Fz {size:Int} (hf:rj size=true):1<=size/\size<=8:=by rcases Oa hf with rfl|rfl|rfl|rfl<;>omega
theorem CI {O w:ao} {F:HP} {g aj:Nat} {bs:aJ} {size:Int} (h:V O (gj g bs aj*F) w) (kL:aj<=bs.length) (hb:bs.length<=140737488355328) (hr:∀b∈bs,0<=b/\b<=255): ae 242 #[al g,aa size] w λv w'=> v=ak #[ah (lZ bs aj size).1,aa (lZ bs aj size).2.2]/\(lZ bs aj size).2.1<=bs.length/\V O (gj g bs (lZ bs aj size).2.1*F) w':=by
 apply YG;refine fY (Ob size)<|cR ?_;cases hf:rj size with
 |false=>
  refine aW rfl ?_;have hR:lZ bs aj size=(0,aj,1):=by simp[lZ,hf]
  rw[hR];exact⟨rfl,kL,h⟩
 |true=>
  have hs:=Fz hf;have hg:=Fy (a:=aj) (s:=size) hs.1;obtain⟨m,hm⟩:∃m:Nat,lB aj size=m:=⟨(lB aj size).toNat,by omega⟩;obtain⟨p,c,h⟩:=gj.aK h;have mQ:∀{w F},V O (ab g #[af p bs.length c,aa aj] 583*F) w->w.cell? (aD g)=some (af p bs.length c):=λh=>h.left.cell (i:=0) rfl;have jH:∀{w F},V O (ab g #[af p bs.length c,aa aj] 583*F) w->w.cell? ⟨g,1,none⟩=some (aa aj):=λh=>h.left.cell (i:=1) rfl;refine aw rfl<|aw rfl<|aq<|az (jH h)<|fY (Oc _ _ (by omega) hs.1 hs.2)<|bI ?_;rw[hm];refine aq<|aN (mQ h.drew)<|aq<|az (jH h.drew)<|aY (by omega) (by omega)<|aY (by omega) (by omega) ?_;have hR:lZ bs aj size=if bs.length<aj+m+size.toNat then(0,aj,6) else if((bs.drop aj).take m).all (·==0)=false then(0,aj,5) else(le ((bs.drop (aj+m)).take size.toNat),aj+m+size.toNat,0):=by simp only[lZ,hf,hm,cu];rfl
  rw[hR];refine bU (λaQ=> ?_) (λbW=> ?_)
  .rw[if_pos (by omega)];exact⟨rfl,kL,gj.aI h.drew⟩
  .rw[if_neg (by omega)];have h2:=h.drew.drew;have mr:=h2.right.left.vJ;refine aq<|aN (mQ h2)<|aq<|az (jH h2)<|aq<|az (jH h2)<|aY (by omega) (by omega)<|oI (by omega) (by omega) (by omega) ?_;have e1:((aj:Int)+(m:Int)).toNat=aj+m:=by omega
   rw[e1,cu];have Ol:∀{w},V O (ab g #[af p bs.length c,aa aj] 583*(own 5 1 p bs.length c (bc bs)*F)) w->Rd w 1 (if c=aj then p else p.map (·.add (aj*1))) (aj+m- aj) (bc ((bs.drop aj).take (aj+m- aj))):=λh=>(bd.Ft (c:=c) (F:=own 5 1 p bs.length c (bc bs)) bd.own (by omega) (by omega) mr) _ _ h.right.left;rw[show aj+m- aj=m by omega] at Ol ⊢;refine⟨λi w' k=>0<=i/\i<=m/\k=m- i.toNat/\(∀(j:Nat),j<i.toNat->((bs.drop aj).take m)[j]?=some 0)/\V O (ab g #[af p bs.length c,aa aj] 583*(own 5 1 p bs.length c (bc bs)*F)) w',⟨_,by omega,by omega,rfl,λj hj=>absurd hj (by simp),h2⟩,?_⟩;rintro u i w3 k ⟨CF,Og,rfl,hz,h3⟩;refine bU (λhi=>N4 (Ol h3) CF hi (lX.refl _) λa x yH IV=>az IV<|cy (λcp=> ?_) (λhe=> ?_)) (λhi=> ?_)
   .have pq:((bs.drop aj).take m).all (·==0)=false:=by rw[List.all_eq_false];exact⟨x,sa.2 ⟨_,yH⟩,by simpa using cp⟩
    rw[pq,if_pos rfl];exact⟨rfl,kL,gj.aI h3⟩
   .refine aY (by omega) (by omega) ⟨_,by omega,by omega,by omega,rfl,λj hj=> ?_,h3⟩;by_cases oD:j<i.toNat
    .exact hz j oD
    .have e:j=i.toNat:=by omega
     rw[e,yH];simpa using he
   .have lU:((bs.drop aj).take m).all (·==0)=true:=by rw[se];intro x hx;obtain⟨j,hj⟩:=sa.1 hx;have iM:=(ct.1 hj).1;rw[fB] at iM;have:=hz j (by omega);rw[hj] at this;simpa using this
    rw[lU,if_neg (by simp)];obtain⟨k8,hk8⟩:∃k:Nat,size=k:=⟨size.toNat,by omega⟩;subst hk8;simp only[cu] at bW ⊢;refine⟨λx i w' n=>0<=i/\i<=k8/\n=k8- i.toNat/\x=le ((bs.drop (aj+m)).take i.toNat)/\V O (ab g #[af p bs.length c,aa aj] 583*(own 5 1 p bs.length c (bc bs)*F)) w',⟨_,by omega,by omega,rfl,by simp[le],h3⟩,?_⟩;rintro u x i w4 n ⟨CF,Og,rfl,rfl,h4⟩;have IW:∀b∈(bs.drop (aj+m)).take i.toNat,0<=b/\b<=255:=λb hb=>hr b (sV (pU hb));have IX:((bs.drop (aj+m)).take i.toNat).length=i.toNat:=by rw[fB,sc];omega
    have IY:=CH _ IW;rw[IX] at IY;refine bU (λhi=> ?_) (λhi=> ?_)
    .have h4:=h4.drew;refine aq<|aN (mQ h4)<|aq<|az (jH h4)<|aY (by omega) (by omega)<|aY (by omega) (by omega)<|N4 h4.right.left.rd (by omega) (by omega) (lX.refl _) λa x yH IV=>az IV ?_;have hxr:=hr x (sa.2 ⟨_,yH⟩);refine fx (by omega) (by omega)<|aY (by omega) (by omega) ?_;obtain⟨xn,rfl⟩:∃q:Nat,x=q:=⟨x.toNat,by omega⟩;obtain⟨i8,rfl⟩:∃q:Nat,i=q:=⟨i.toNat,by omega⟩;simp only[cu] at IY IX yH ⊢;obtain⟨ln,CJ⟩:∃q:Nat,le ((bs.drop (aj+m)).take i8)=q:=⟨(le ((bs.drop (aj+m)).take i8)).toNat,by omega⟩;have hp:(256:Int)^i8=((2^(8*i8):Nat):Int):=by rw[Nat.pow_mul];simp
     have s4:2^(8*i8)<=2^56:=Nat.pow_le_pow_right (by omega) (by omega);have abJ:ln<2^(8*i8):=by rw[hp,CJ] at IY;omega
     have hxb:xn*2^(8*i8)<2^64:=by have:xn*2^(8*i8)<=255*2^56:=Nat.mul_le_mul (by omega) s4;omega
     refine⟨by omega,?_⟩;have e8:min (8*(i8:Int)).toNat IntKind.u64.bits=8*i8:=by simp only[IntKind.bits];omega
     rw[e8];have ew:IntKind.u64.wrap ((xn:Int)*2^(8*i8))=((xn*2^(8*i8):Nat):Int):=by
      have e:(xn:Int)*2^(8*i8)=((xn*2^(8*i8):Nat):Int):=by rw[Cj,Int.natCast_pow];rfl
      rw[e,s9 (Int.natCast_nonneg _) (by simp only[IntKind.max,IntKind.signed,IntKind.bits,lS,if_false];omega)]
     rw[ew,CJ];dsimp only;rw[abG abJ hxb (by omega)];refine aY (by omega) (by omega) ⟨_,by omega,by omega,by omega,rfl,?_,h4⟩;have e2:((i8:Int)+1).toNat=i8+1:=by omega
     have e3:((aj:Int)+(m:Int)+(i8:Int)).toNat=aj+m+i8:=by omega
     rw[e3] at yH;rw[e2,fV,qP,yH];simp only[Cc];rw[abF,IX,CJ,hp,<-Cj,Nat.mul_comm,Int.natCast_add]
    .have:i=k8:=by omega
     subst this;simp only[cu];refine aq<|az (jH h4)<|aY (by omega) (by omega)<|aY (by omega) (by omega)<|aq<|bD (i:=1) h4 (by simp) λw5 h5=> ?_;have e:(aj:Int)+((m:Int)+(k8:Int))=((aj+m+k8:Nat):Int):=by omega
     refine⟨trivial,by omega,gj.aI (p:=p) (l:=bs.length) (c:=c) ?_⟩;rw[<-e];exact h5
theorem IZ {a b:Nat} (h:a<=b):(256:Int)^a<=256^b:=by
 have h1:=Nat.pow_le_pow_right (n:=256) (by omega) h;have e:∀k:Nat,(256:Int)^k=((256^k:Nat):Int):=λk=>by rw[Int.natCast_pow];rfl
 rw[e,e];exact Int.ofNat_le.2 h1
theorem Om {O w:ao} {F:HP} {g aj:Nat} {bs:aJ} (h:V O (gj g bs aj*F) w) (kL:aj<=bs.length) (hb:bs.length<=140737488355328): ae 245 #[al g] w λv w'=>v=aa ((bs.length- aj:Nat):Int)/\V O (gj g bs aj*F) w':=by apply YJ;obtain⟨p,c,h⟩:=gj.aK h;have h:=h.drew;refine aw rfl<|aq<|aN (h.left.cell (i:=0) rfl)<|aq<|az (h.left.cell (i:=1) rfl)<|aY (by omega) (by omega) ⟨?_,gj.aI h⟩;congr 1;omega
theorem abL {O w:ao} {F:HP} {g aj:Nat} {bs:aJ} (h:V O (gj g bs aj*F) w) (kL:aj<=bs.length) (hb:bs.length<=140737488355328): ae 314 #[al g] w λv w'=>v=aa (if aj<bs.length then 5 else 0)/\V O (gj g bs aj*F) w':=by
 apply YT;refine ay (Om h kL hb) ?_;rintro _ w1 ⟨rfl,h1⟩;refine bI<|bU (λaQ=>⟨?_,h1⟩) (λbW=>⟨?_,h1⟩)
 .rw[if_pos (by omega)]
 .rw[if_neg (by omega)]
theorem abM {bs:aJ} {aj:Nat} {size:Int} (hr:∀b∈bs,0<=b/\b<=255):0<=(lZ bs aj size).1/\(lZ bs aj size).1<=18446744073709551615:=by
 unfold lZ;split
 .simp
 .rename_i hf;dsimp only;split
  .simp
  .split
   .simp
   .have h1:=CH ((bs.drop (aj+(lB aj size).toNat)).take size.toNat) λb hb=>hr b (sV (pU hb));have hs:=Fz (by simpa using hf);have h2:((bs.drop (aj+(lB aj size).toNat)).take size.toNat).length<=8:=by rw[fB];omega
    have h3:(256:Int)^((bs.drop (aj+(lB aj size).toNat)).take size.toNat).length<=256^8:=IZ h2;exact⟨h1.1,by dsimp only;omega⟩
theorem abN {pre rest:aJ} {n size:Int} (hf:rj size=true) (h0:0<=n) (h1:n<256^size.toNat): lZ (pre++(lC pre.length n size++rest)) pre.length size=(n,pre.length+(lC pre.length n size).length,0):=by
 have hs:=Fz hf;have hg:=Fy (a:=pre.length) (s:=size) hs.1;obtain⟨m,hm⟩:∃m:Nat,lB pre.length size=m:=⟨(lB pre.length size).toNat,by omega⟩;have iQ:=IT pre.length n size hs.1;have hd:(pre++(lC pre.length n size++rest)).drop pre.length=List.replicate m 0++(lay n size.toNat++rest):=by rw[zS,lC,hm,iy];simp
 unfold lZ;rw[hf,hm,cu];rw[if_neg (by simp)];dsimp only;rw[if_neg (by simp only[gp,iQ,hm];omega),hd];rw[qS (by simp),if_neg (by simp)];have hd2:(pre++(lC pre.length n size++rest)).drop (pre.length+m)=lay n size.toNat++rest:=by rw[<-Cl,hd,Ci (by simp)]
 rw[hd2,qS (qo _ _),IU n _ h0 h1,iQ,hm,cu];congr 2;omega
structure gv where
 fl:Int
 rf:Int
 ox:Int
 dy:Int
 bs:aJ
def kO (x:gv):dB:=[aH x.fl,aH x.rf,ah x.ox,ah x.dy]
def bF (x:gv):aM:=(kO x++bc x.bs).toArray
structure jV (x:gv):Prop where
 fl:0<=x.fl/\x.fl<=4294967295
 rf:0<=x.rf/\x.rf<=4294967295
 ox:0<=x.ox/\x.ox<=18446744073709551615
 dy:0<=x.dy/\x.dy<=18446744073709551615
 len:x.bs.length=32
 rk:∀b∈x.bs,0<=b/\b<=255
theorem dq {x:gv} (h:jV x):(bF x).size=36:=by simp[bF,kO,dh,h.len]
theorem abP {x:gv} (i:Nat):(bF x)[4+i]?=(bc x.bs)[i]?:=by simp only[bF,kI];rw[ix (by simp[kO])];simp[kO]
theorem xe {O w:ao} {F:HP} {k:Nat} {t:TypeId} {x:gv} {K:aM->Prop} (h:V O (ab k (bF x) t*F) w) (hx:jV x) (hk:K (bF x)):aA (aD k) 36 w K:=by
 refine oF (dq hx) (λi hi=> ?_) hk;rw[du,dc];have:i<(bF x).size:=by rw[dq hx];exact hi
 rw[h.left.cell (v:=(bF x)[i]) (by simp[this])];simp[this]
theorem On {O w:ao} {F:HP} {k:Nat} {t:TypeId} {x:gv} {K:aM->Prop} (h:V O (ab k (bF x) t*F) w) (hx:jV x) (o:Nat) (ho:o+16<=32) (hk:K (bc ((x.bs.drop o).take 16)).toArray):aA ((aD k).add (4+o)) 16 w K:=by
 have hl:=hx.len;refine oF (by simp[dh];omega) (λi hi=> ?_) hk;rw[du,du,dc];have e:(bF x)[4+o+i]?=some (.int .u8 (x.bs[o+i]'(by omega))):=by rw[Nat.add_assoc,abP];simp[bc,show o+i<x.bs.length by omega]
 rw[h.left.cell e];simp[bc,vp,qP,hi,show o+i<x.bs.length by omega]
def i9 (x:gv):Bool:=decide (x.fl<=2)&&((x.fl==0)==decide (x.rf>0))
theorem At {O w:ao} {F:HP} {x:gv} (h:V O F w) (hx:jV x): ae 290 #[an (bF x)] w λv w'=>v=aa (if i9 x=true then 0 else 5)/\V O F w':=by
 apply XP;refine aG h λk w1 h1=>az (h1.left.cell (i:=0) rfl)<|bU (λCK=>⟨?_,h1.right⟩) (λhle=>az (h1.left.cell (i:=0) rfl)<|az (h1.left.cell (i:=1) rfl)<|cy (λhb=>⟨?_,h1.right⟩) (λhb=>⟨?_,h1.right⟩))
 .simp[i9,show¬x.fl<=2 by omega]
 .rw[if_neg];simp[i9] at hb ⊢;exact λ_=>hb
 .rw[if_pos];simp[i9] at hb ⊢;exact⟨by omega,hb⟩
theorem FA {a:Nat} {n s:Int} (hs:1<=s) (h:(a:Int)%s=0):lC a n s=lay n s.toNat:=by
 have:lB a s=0:=by rw[lB,h];simp
 simp[lC,this]
def xf (ns:aJ):aJ:=ns.flatMap (lay · 4)
theorem I0 (ns:aJ):(xf ns).length=4*ns.length:=by
 induction ns with
 |nil=>rfl
 |cons n ns ih=>simp only[xf,jE,gp,qo,iB] at ih ⊢;omega
def yI (x:gv):aJ:=xf [1464812877,x.fl,x.rf,0]++lay x.ox 8++lay x.dy 8
theorem I9 (x:gv):(yI x).length=32:=by simp[yI,I0,qo]
def ja (x:gv):aJ:=yI x++x.bs
theorem FB {x:gv} (h:jV x):(ja x).length=64:=by simp[ja,I9,h.len]
theorem abQ {b:Int} (h0:0<=b) (h1:b<=255):lay b 1=[b]:=by simp[lay];omega
theorem abR {O w:ao} {F:HP} {x:gv} (h:V O F w) (hx:jV x) (hr:i9 x=true): ae 263 #[an (bF x)] w λv w'=>∃q d,v=ak #[af q 64 d,aa 0]/\V O (own 5 1 q 64 d (bc (ja x))*F) w':=by
 apply YO;have hl:=hx.len;refine aG h λk w1 h1=>xe h1 hx<|ay (At h1 hx) ?_;rintro _ w2 ⟨rfl,h2⟩;refine bI<|aw (by simp[hr])<|ay (Oe h2) ?_;rintro _ w3 ⟨g,rfl,h3⟩;refine gK<|az (h3.right.left.cell (i:=0) rfl)<|az (h3.right.left.cell (i:=1) rfl) ⟨λi w m=>∃j:Nat,i=j/\j<=4/\m=4- j/\V O (Wr g (xf (([1464812877,x.fl,x.rf,0]:aJ).take j))*(ab k (bF x) 164*F)) w,⟨_,0,rfl,by omega,rfl,h3⟩,?_⟩;rintro u _ w4 m ⟨j,rfl,hj,rfl,h4⟩;refine bU (λaQ=>⟨by omega,?_⟩) (λbW=> ?_)
 .have step:∀n,([1464812877,x.fl,x.rf,0]:aJ)[j]?=some n->0<=n->n<=4294967295->ae 261 #[al g,ah n,aa 4] w4 λv16 w5=>bp .i64 v16 λn17=>arith .i64 ((j:Int)+1) λOo=>∃Oq,Oq<4- j/\∃i:Nat,Oo=i/\i<=4/\Oq=4- i/\V O (Wr g (xf (([1464812877,x.fl,x.rf,0]:aJ).take i))*(ab k (bF x) 164*F)) w5:=by
   intro n hn n0 n1;have eB:=I0 (([1464812877,x.fl,x.rf,0]:aJ).take j);have yC:(([1464812877,x.fl,x.rf,0]:aJ).take j).length=j:=by simp;omega
   rw[yC] at eB;refine ay (CE h4 rfl n0 (by show n<256^4;omega) (by omega)) ?_;rintro _ w5 ⟨rfl,h5⟩;refine bI<|aY (by omega) (by omega) ⟨_,by omega,j+1,by omega,by omega,rfl,?_⟩;rw[fV,hn,xf,sW];rw[FA (by omega) (by omega)] at h5;simpa[xf] using h5
  have iQ:=hx.fl;have te:=hx.rf;have:j=0\/j=1\/j=2\/j=3:=by omega
  rcases this with rfl|rfl|rfl|rfl
  .exact⟨_,rfl,fx (by omega) (by omega)<|step _ rfl (by omega) (by omega)⟩
  .exact⟨_,rfl,fx (by omega) (by omega)<|step _ rfl (by omega) (by omega)⟩
  .exact⟨_,rfl,fx (by omega) (by omega)<|step _ rfl (by omega) (by omega)⟩
  .exact⟨_,rfl,fx (by omega) (by omega)<|step _ rfl (by omega) (by omega)⟩
 .have e4:j=4:=by omega
  subst e4;rw[eW (by simp)] at h4;have l4:=I0 [1464812877,x.fl,x.rf,0];simp only[iB,yk] at l4;have Au:=hx.ox;have FC:=hx.dy;refine az (h4.right.left.cell (i:=2) rfl)<|ay (CE h4 rfl Au.1 (by show x.ox<256^8;omega) (by omega)) ?_;rintro _ w5 ⟨rfl,h5⟩;rw[FA (by omega) (by omega)] at h5;refine bI<|az (h5.right.left.cell (i:=3) rfl)<|ay (CE h5 rfl FC.1 (by show x.dy<256^8;omega) (by simp[qo];omega)) ?_;rintro _ w6 ⟨rfl,h6⟩;rw[FA (by omega) (by simp[qo];omega)] at h6;have h6:V O (Wr g (yI x)*(ab k (bF x) 164*F)) w6:=h6;have hH:=I9 x;refine bI<|On h6.right hx 0 (by omega)<|On h6.right hx 16 (by omega) ⟨by simp[dh];omega,by simp[dh];omega,?_⟩;have hgl:((#[]++(bc ((x.bs.drop 0).take 16)).toArray)++(bc ((x.bs.drop 16).take 16)).toArray)=(bc x.bs).toArray:=by
   apply cT;have:x.bs.take 16++(x.bs.drop 16).take 16=x.bs:=by rw[eW (l:=x.bs.drop 16) (by simp;omega),mK]
   simp only[m9,Array.toList_append,Array.empty_append];rw[<-pt,this]
  rw[hgl];refine⟨λi w m=>∃j:Nat,i=j/\j<=2/\m=2- j/\V O (Wr g (yI x++x.bs.take (16*j))*(ab k (bF x) 164*F)) w,⟨_,0,rfl,by omega,rfl,by simpa using h6⟩,?_⟩;rintro u _ w7 m ⟨j,rfl,hj,rfl,h7⟩;refine bU (λaQ=>⟨by omega,?_⟩) (λbW=> ?_)
  .have hex:(bc x.bs).toArray.extract (Int.toNat (j:Int)*16) (Int.toNat (j:Int)*16+16)=(bc ((x.bs.drop (16*j)).take 16)).toArray:=by apply cT;simp[bc,oZ,Nat.mul_comm,wJ,List.map_drop]
   rw[hex];refine aG h7 λk2 w8 h8=>bL h8 rfl (by simp[dh];omega) (by simpa using jt _) λw9 h9=> ?_;have gW:((x.bs.drop (16*j)).take 16).length=16:=by simp;omega
   refine oF (vs:=(bc ((x.bs.drop (16*j)).take 16)).toArray) (by simp[dh];omega) (λi hi=> ?_) ?_
   .rw[du,dc];have:i<(bc ((x.bs.drop (16*j)).take 16)).toArray.size:=by simp[dh];omega
    rw[h9.left.cell (v:=((bc ((x.bs.drop (16*j)).take 16)).toArray)[i]) (by simp only[B2 this])];simp only[B2 this]
   .refine⟨λi w m=>∃q:Nat,i=q/\q<=16/\m=16- q/\V O (Wr g (yI x++x.bs.take (16*j+q))*(ab k2 (bc ((x.bs.drop (16*j)).take 16)).toArray 30*(ab k (bF x) 164*F))) w,⟨_,0,rfl,by omega,rfl,h9.p1⟩,?_⟩;rintro u _ dn m ⟨q,rfl,hq,rfl,aV⟩;refine bU (λoJ=>⟨by omega,?_⟩) (λxg=> ?_)
    .have hb:x.bs[16*j+q]?=some (x.bs[16*j+q]'(by omega)):=by simp[show 16*j+q<x.bs.length by omega]
     generalize x.bs[16*j+q]'(by omega)=b at hb;have mu:=hx.rk b (dF hb);refine⟨b,?_,fx (by omega) (by omega)<|ay (CE aV rfl mu.1 (by show b<256^1;omega) (by simp;omega)) ?_⟩
     .simp only[cu,jT,kI,bc,eZ];rw[vp,if_pos (by omega),qP,hb];rfl
     .rintro _ dP ⟨rfl,bu⟩;rw[FA (by omega) (by omega)] at bu;refine bI<|aY (by omega) (by omega) ⟨_,by omega,q+1,by omega,by omega,rfl,?_⟩;have e:x.bs.take (16*j+(q+1))=x.bs.take (16*j+q)++lay b 1:=by rw[<-Nat.add_assoc,fV,hb,abQ mu.1 mu.2];rfl
      rw[e,<-iy];exact bu
    .have:q=16:=by omega
     subst this;exact aY (by omega) (by omega) ⟨_,by omega,j+1,by omega,by omega,rfl,aV.p1.right⟩
  .have:j=2:=by omega
   subst this;rw[eW (by omega)] at h7;have h7:V O (Wr g (ja x)*(ab k (bF x) 164*F)) w7:=h7;have hL:=FB hx;refine ay (Oh h7 (by omega)) ?_;rintro _ w8 ⟨q,d,rfl,h8⟩;rw[hL] at h8 ⊢;exact iE ⟨q,d,rfl,h8.p1.right.p1.right⟩
def aj (bs:aJ) (o n:Nat):Int:=le ((bs.drop o).take n)
theorem Av {bs:aJ} {o n:Nat} (hr:∀b∈bs,0<=b/\b<=255):0<=aj bs o n/\aj bs o n<256^n:=by
 have h:=CH ((bs.drop o).take n) λb hb=>hr b (sV (pU hb));have hl:((bs.drop o).take n).length<=n:=by rw[fB];omega
 have:=IZ hl;exact⟨h.1,by unfold aj;omega⟩
theorem FD {bs:aJ} {o:Nat} {s:Int} (hf:rj s=true) (hm:(o:Int)%s=0) (hl:o+s.toNat<=bs.length):lZ bs o s=(aj bs o s.toNat,o+s.toNat,0):=by
 have:lB o s=0:=by rw[lB,hm];simp
 unfold lZ;rw[hf,this];simp;rw[if_neg (by omega)];rfl
def oK (bs:aJ):gv:=⟨aj bs 4 4,aj bs 8 4,aj bs 16 8,aj bs 24 8,(bs.drop 32).take 32⟩
def uv:gv:=⟨0,0,0,0,List.replicate 32 0⟩
theorem Ja {bs:aJ} (hl:64<=bs.length) (hr:∀b∈bs,0<=b/\b<=255):jV (oK bs):=by
 have h1:=Av (o:=4) (n:=4) hr;have h2:=Av (o:=8) (n:=4) hr;have h3:=Av (o:=16) (n:=8) hr;have h4:=Av (o:=24) (n:=8) hr;refine⟨⟨h1.1,?_⟩,⟨h2.1,?_⟩,⟨h3.1,?_⟩,⟨h4.1,?_⟩,?_,λb hb=>hr b (sV (pU hb))⟩
 .show aj bs 4 4<=_;omega
 .show aj bs 8 4<=_;omega
 .show aj bs 16 8<=_;omega
 .show aj bs 24 8<=_;omega
 .show((bs.drop 32).take 32).length=32;simp;omega
def tf (bs:aJ):Bool:=aj bs 0 4==1464812877&&aj bs 12 4==0&&decide (bs.length=64)&&i9 (oK bs)
def kP (bs:aJ):gv×Int:=if bs.length<64 then(uv,6) else if tf bs=true then(oK bs,0) else(uv,5)
theorem abU:bF uv=gq:=rfl
theorem uw:jV uv:=⟨by decide,by decide,by decide,by decide,rfl,by decide⟩
theorem CL {x:gv}:∀u∈(bF x).toList,u.oneCell'=true:=by
 intro u hu;simp only[bF] at hu;rcases fj.1 hu with hu|hu
 .simp[kO] at hu;rcases hu with rfl|rfl|rfl|rfl<;>rfl
 .exact jt _ u hu
theorem Ot {O w:ao} {F:HP} {g o:Nat} {bs:aJ} (h:V O (gj g bs o*F) w) (hl:o+16<=bs.length) (hb:bs.length<=140737488355328) (hr:∀b∈bs,0<=b/\b<=255): ae 313 #[al g] w λv w'=>v=an (bc ((bs.drop o).take 16)).toArray/\V O (gj g bs (o+16)*F) w':=by
 apply YS;refine aG h λk1 w1 h1=>aG h1 λk2 w2 h2=> ?_;have h2:=h2.p2;refine⟨λi w m=>∃j:Nat,i=j/\j<=16/\m=16- j/\V O (gj g bs (o+j)*(ab k2 (bc ((bs.drop o).take j++List.replicate (16- j) 0)).toArray 30*(ab k1 lr 30*F))) w,⟨_,0,rfl,by omega,rfl,by rw[qT];exact h2⟩,?_⟩;rintro u _ w3 m ⟨j,rfl,hj,rfl,h3⟩;have yC:((bs.drop o).take j).length=j:=by simp;omega
 refine bU (λaQ=> ?_) (λbW=> ?_)
 .refine ay (CI h3 (by omega) hb hr) ?_;rw[FD rfl (by simp) (by show o+j+1<=_;omega)];rintro _ w4 ⟨rfl,_,h4⟩;have ux:bs[o+j]?=some (bs[o+j]'(by omega)):=by simp[show o+j<bs.length by omega]
  generalize bs[o+j]'(by omega)=b at ux;have mu:=hr b (dF ux);have kL:aj bs (o+j) (1:Int).toNat=b:=by
   have e:(bs.drop (o+j)).take 1=[b]:=by obtain⟨aQ,he⟩:=ct.1 ux;rw[ll aQ,he];rfl
   show le ((bs.drop (o+j)).take 1)=b;rw[e];simp[le]
  dsimp only at h4 ⊢;rw[kL];refine⟨_,_,rfl,qn<|lY (by omega) (by omega) ?_⟩;rw[du,dc,cu,jT];have hm:b%256=b:=by omega
  rw[hm];refine bD (i:=j) h4.p1 (by simp[dh];omega) λw5 h5=>aY (by omega) (by omega) ⟨_,by omega,j+1,by omega,by omega,rfl,?_⟩;have e:(bc ((bs.drop o).take j++List.replicate (16- j) 0)).toArray.setIfInBounds j (.int .u8 b)=(bc ((bs.drop o).take (j+1)++List.replicate (16- (j+1)) 0)).toArray:=by apply cT;rw[rZ];show(bc ((bs.drop o).take j++List.replicate (16- j) 0)).set j (.int .u8 b)=bc ((bs.drop o).take (j+1)++List.replicate (16- (j+1)) 0);rw[pt,pt,lp _ _ (by simp[dh];omega),dh,yC,yl,show 16- j=16- (j+1)+1 by omega,Cb,fV,qP,ux,pt];simp[bc]
  rw[e] at h5;exact h5.p1
 .have:j=16:=by omega
  subst this;simp only[yl,EH,jS] at h3;have h4:=h3.p1;have gW:(bc ((bs.drop o).take 16)).toArray.size=16:=by simp[dh];omega
  have ld:∀{w F k},V O (ab k (bc ((bs.drop o).take 16)).toArray 30*F) w->∀i,i<16->w.cell? ((aD k).add i)=((bc ((bs.drop o).take 16)).toArray)[i]?:=by
   intro w F k h i hi;have:i<(bc ((bs.drop o).take 16)).toArray.size:=by rw[gW];exact hi
   rw[du,dc,h.left.cell (v:=((bc ((bs.drop o).take 16)).toArray)[i]) (by simp only[B2 this])];simp only[B2 this]
  refine oF gW (ld h4)<|bL h4.p2 rfl gW (by simpa using jt _) λw5 h5=>oF gW (ld h5) ⟨rfl,h5.right.right⟩
theorem abV {a b c d:Value} {zs:dB} (hz:zs.length=32) {g1 g2:dB} (h1:g1.length=16) (h2:g2.length=16): (((((a::b::c::d::zs).take 4++g1++(a::b::c::d::zs).drop (4+16)).toArray.toList.take 20)++g2++(((a::b::c::d::zs).take 4++g1++(a::b::c::d::zs).drop (4+16)).toArray.toList.drop (20+16))).toArray)=([a,b,c,d]++(g1++g2)).toArray:=by
 apply cT;have e:(a::b::c::d::zs).take 4++g1++(a::b::c::d::zs).drop (4+16)=([a,b,c,d]++g1)++zs.drop 16:=by simp
 have e1:([a,b,c,d]++g1).length=20:=by simp[h1]
 have e2:(([a,b,c,d]++g1)++zs.drop 16).length=36:=by rw[gp,e1];simp[hz]
 show(((a::b::c::d::zs).take 4++g1++(a::b::c::d::zs).drop (4+16)).take 20)++g2++(((a::b::c::d::zs).take 4++g1++(a::b::c::d::zs).drop (4+16)).drop (20+16))=[a,b,c,d]++(g1++g2);rw[e,qS e1,mJ (by omega),jS,iy]
theorem abW {bs:aJ}:(([aH (aj bs 4 4),aH (aj bs 8 4),ah (aj bs 16 8),ah (aj bs 24 8)]:dB)++(bc ((bs.drop 32).take 16)++bc ((bs.drop 48).take 16))).toArray=bF (oK bs):=by
 have e:(bs.drop 32).take 16++(bs.drop 48).take 16=(bs.drop 32).take 32:=by rw[show bs.drop 48=(bs.drop 32).drop 16 by rw[Cl],<-List.take_add]
 rw[<-pt,e];rfl
theorem abX {O w:ao} {F:HP} {p:av} {l c:Nat} {bs:aJ} (h:V O F w) (hx:bd F 1 p l (bc bs)) (hb:l<=140737488355328) (hr:∀b∈bs,0<=b/\b<=255): ae 244 #[af p l c] w λv w'=>v=ak #[an (bF (kP bs).1),aa (kP bs).2]/\V O F w':=by
 apply YI;have hl:=(hx _ _ h).wX;subst hl;rw[<-abU];refine aG h λk1 w1 h1=>bU (λaQ=> ?_) (λbW=> ?_)
 .refine bL h1 (dq uw) (dq uw) CL λw2 h2=>xe h2 uw ⟨?_,h2.right⟩;rw[kP,if_pos (by omega)]
 .have hn:¬bs.length<64:=by omega
  have Ou:kP bs=if tf bs=true then(oK bs,0) else(uv,5):=by rw[kP,if_neg hn]
  refine ay (Ok h1 (bd.right hx) hb) ?_;rintro _ w2 ⟨g,rfl,h2⟩;refine gK<|aG h2 λk5 w3 h3=> ?_;have h3:=h3.p1;refine⟨λi w m=>∃j:Nat,i=j/\j<=4/\m=4- j/\V O (gj g bs (4*j)*(ab k5 (((([aj bs 0 4,aj bs 4 4,aj bs 8 4,aj bs 12 4]:aJ).take j++List.replicate (4- j) 0).map λn=>ah n).toArray) 584*(ab k1 (bF uv) 164*F))) w,⟨_,0,rfl,by omega,rfl,by rw[qT];exact h3⟩,?_⟩;rintro u _ w4 m ⟨j,rfl,hj,rfl,h4⟩;refine bU (λaQ=> ?_) (λamj=> ?_)
  .refine ay (CI h4 (by omega) hb hr) ?_;rw[FD rfl (by omega) (by show 4*j+4<=_;omega)];rintro _ w5 ⟨rfl,_,h5⟩;dsimp only at h5 ⊢;refine⟨_,_,rfl,lY (by omega) (by omega) ?_⟩;rw[du,dc,cu,jT];have e4:(4:Int).toNat=4:=rfl;rw[e4] at h5 ⊢;have:j=0\/j=1\/j=2\/j=3:=by omega
   rcases this with rfl|rfl|rfl|rfl
   .exact bD (i:=0) h5.p1 (by simp) λw6 h6=>aY (by omega) (by omega) ⟨_,by omega,1,by omega,by omega,rfl,h6.p1⟩
   .exact bD (i:=1) h5.p1 (by simp) λw6 h6=>aY (by omega) (by omega) ⟨_,by omega,2,by omega,by omega,rfl,h6.p1⟩
   .exact bD (i:=2) h5.p1 (by simp) λw6 h6=>aY (by omega) (by omega) ⟨_,by omega,3,by omega,by omega,rfl,h6.p1⟩
   .exact bD (i:=3) h5.p1 (by simp) λw6 h6=>aY (by omega) (by omega) ⟨_,by omega,4,by omega,by omega,rfl,h6.p1⟩
  .have:j=4:=by omega
   subst this;have h4:V O (gj g bs 16*(ab k5 #[ah (aj bs 0 4),ah (aj bs 4 4),ah (aj bs 8 4),ah (aj bs 12 4)] 584*(ab k1 (bF uv) 164*F))) w4:=h4;have hX:=Ja (by omega) hr;have r1:=Av (o:=4) (n:=4) hr;have r2:=Av (o:=8) (n:=4) hr;have hd:∀{w G} (j:Nat) {v:Value},V O (ab k5 #[ah (aj bs 0 4),ah (aj bs 4 4),ah (aj bs 8 4),ah (aj bs 12 4)] 584*G) w->(#[ah (aj bs 0 4),ah (aj bs 4 4),ah (aj bs 8 4),ah (aj bs 12 4)]:aM)[j]?=some v->w.cell? ((aD k5).add j)=some v:=by intro w G j v hw hv;rw[du,dc];exact hw.left.cell hv
   refine lY (by omega) (by omega)<|az (hd 1 h4.right rfl)<|gX (by omega) (by omega)<|lY (by omega) (by omega)<|az (hd 2 h4.right rfl)<|gX (by omega) (by omega)<|aG h4 λsu w5 h5=>bL h5 (dq uw) rfl (by simp[Value.oneCell']) λw6 h6=> ?_;have h6:=h6.p1;refine ay (CI h6 (by omega) hb hr) ?_;rw[FD rfl (by decide) (by show 16+8<=_;omega)];rintro _ w7 ⟨rfl,_,h7⟩;have h7:V O (gj g bs 24*_) w7:=h7;refine⟨_,_,rfl,bD (i:=2) h7.p1 (by simp) λw8 h8=>ay (CI h8.p1 (by show 24<=_;omega) hb hr) ?_⟩;rw[FD (o:=24) rfl (by decide) (by show 24+8<=_;omega)];rintro _ w9 ⟨rfl,_,h9⟩;refine⟨_,_,rfl,bD (i:=3) h9.p1 (by simp) λdn aV=>ay (Ot (o:=32) aV.p1 (by omega) hb hr) ?_⟩;rintro _ dP ⟨rfl,bu⟩;have s1:(bc ((bs.drop 32).take 16)).toArray.size=16:=by simp[dh];omega
   have s2:(bc ((bs.drop 48).take 16)).toArray.size=16:=by simp[dh];omega
   refine nI<|As bu.p1 (by simp) s1 (by simpa using jt _) λfF bA=>ay (Ot (o:=48) bA.p1 (by omega) hb hr) ?_;rintro _ fZ ⟨rfl,bN⟩;refine nI<|As bN.p1 (by simp[dh];omega) s2 (by simpa using jt _) λdH bY=> ?_;have bY:V O (ab su (bF (oK bs)) 164*(gj g bs 64*(ab k5 #[ah (aj bs 0 4),ah (aj bs 4 4),ah (aj bs 8 4),ah (aj bs 12 4)] 584*(ab k1 (bF uv) 164*F)))) dH:=by have e:=abV (a:=aH (aj bs 4 4)) (b:=aH (aj bs 8 4)) (c:=ah (aj bs 16 8)) (d:=ah (aj bs 24 8)) (zs:=List.replicate 32 (ar)) (by simp) (g1:=bc ((bs.drop 32).take 16)) (g2:=bc ((bs.drop 48).take 16)) s1 s2;rw[abW] at e;rw[<-e];exact bY
   have out:∀{w},V O (ab su (bF (oK bs)) 164*(gj g bs 64*(ab k5 #[ah (aj bs 0 4),ah (aj bs 4 4),ah (aj bs 8 4),ah (aj bs 12 4)] 584*(ab k1 (bF uv) 164*F)))) w->tf bs=false->aS au (aD k1) 36 (bF uv) w λnL=>aA (aD k1) 36 nL λg36=>(ak #[an g36,aa 5])=ak #[an (bF (kP bs).1),aa (kP bs).2]/\V O F nL:=by intro w hw ho;refine bL hw.p3 (dq uw) (dq uw) CL λw' h'=>xe h' uw ⟨?_,h'.right.right.right.right⟩;rw[Ou,ho];rfl
   refine lY (by omega) (by omega)<|az (hd 0 bY.right.right rfl)<|cy (λhs=>out bY ?_) (λhs=>lY (by omega) (by omega)<|az (hd 3 bY.right.right rfl)<|cy (λhz=>out bY ?_) (λhz=>ay (abL bY.p1 (by omega) hb) ?_))
   .have hs:aj bs 0 4≠1464812877:=by simpa using hs
    simp[tf,hs]
   .have hz:aj bs 12 4≠0:=by simpa using hz
    simp[tf,hz]
   .have hs:aj bs 0 4=1464812877:=by simpa using hs
    have hz:aj bs 12 4=0:=by simpa using hz
    rintro _ kQ ⟨rfl,cE⟩;refine bI<|cy (λhe=>out cE.p1 ?_) (λhe=> ?_)
    .have:bs.length≠64:=by intro e;rw[if_neg (by omega)] at he;cases he
     simp[tf,this]
    .have eB:bs.length=64:=by
      by_cases CK:64<bs.length
      .rw[if_pos CK] at he;cases he
      .omega
     refine xe cE.p1 hX<|ay (At cE.p1 hX) ?_;rintro _ nM ⟨rfl,df⟩;refine bI<|cy (λhc=>out df ?_) (λhc=> ?_)
     .have:i9 (oK bs)=false:=by
       cases fp:i9 (oK bs) with
       |false=>rfl
       |true=>rw[fp] at hc;simp at hc
      simp[tf,this]
     .have hR:i9 (oK bs)=true:=by
       cases fp:i9 (oK bs) with
       |true=>rfl
       |false=>rw[fp] at hc;simp at hc
      have cA:tf bs=true:=by simp[tf,hs,hz,eB,hR]
      refine xe df hX<|bL df.p3 (dq uw) (dq hX) CL λnN dZ=>xe dZ hX ⟨?_,dZ.right.right.right.right⟩;rw[Ou,cA];rfl
theorem abZ (xs:aJ) (h:∀b∈xs,0<=b/\b<=255):lay (le xs) xs.length=xs:=by
 induction xs with
 |nil=>rfl
 |cons x xs ih=>have h1:=h x (.head _);have h2:=ih λb hb=>h b (.tail _ hb);have h3:=CH xs λb hb=>h b (.tail _ hb);simp only[le,iB,lay];rw[show(x+256*le xs)%256=x by omega,show(x+256*le xs)/ 256=le xs by omega,h2]
theorem Aw {bs:aJ} {o n:Nat} (hr:∀b∈bs,0<=b/\b<=255) (hl:o+n<=bs.length):lay (aj bs o n) n=(bs.drop o).take n:=by
 have h:=abZ ((bs.drop o).take n) λb hb=>hr b (sV (pU hb));have eB:((bs.drop o).take n).length=n:=by simp;omega
 rw[eB] at h;exact h
theorem Ay {bs:aJ} (o n m:Nat):(bs.drop o).take n++(bs.drop (o+n)).take m=(bs.drop o).take (n+m):=by rw[List.take_add,Cl]
theorem Jb (x:gv):ja x=lay 1464812877 4++(lay x.fl 4++(lay x.rf 4++(lay 0 4++(lay x.ox 8++(lay x.dy 8++x.bs))))):=by simp[ja,yI,xf]
theorem ab0 {bs:aJ} (hl:bs.length=64) (hr:∀b∈bs,0<=b/\b<=255) (h0:aj bs 0 4=1464812877) (h3:aj bs 12 4=0):ja (oK bs)=bs:=by rw[Jb];have a0:=Aw (o:=0) (n:=4) hr (by omega);have a1:=Aw (o:=4) (n:=4) hr (by omega);have a2:=Aw (o:=8) (n:=4) hr (by omega);have a3:=Aw (o:=12) (n:=4) hr (by omega);have a4:=Aw (o:=16) (n:=8) hr (by omega);have a5:=Aw (o:=24) (n:=8) hr (by omega);rw[h0] at a0;rw[h3] at a3;show lay 1464812877 4++(lay (aj bs 4 4) 4++(lay (aj bs 8 4) 4++(lay 0 4++(lay (aj bs 16 8) 8++(lay (aj bs 24 8) 8++(bs.drop 32).take 32)))))=bs;rw[a0,a1,a2,a3,a4,a5,Ay 24 8 32,Ay 16 8 40,Ay 12 4 48,Ay 8 4 52,Ay 4 4 56,Ay 0 4 60];rw[m9];exact eW (by omega)
theorem Az {pre rest:aJ} {n:Int} {k o:Nat} (ho:pre.length=o) (h0:0<=n) (h1:n<256^k):aj (pre++(lay n k++rest)) o k=n:=by subst ho;unfold aj;rw[zS,qS (qo _ _),IU n k h0 h1]
theorem Ov {x:gv} (hx:jV x):oK (ja x)=x/\aj (ja x) 0 4=1464812877/\aj (ja x) 12 4=0:=by
 have h1:=hx.fl;have h2:=hx.rf;have h3:=hx.ox;have h4:=hx.dy;have e:=Jb x;have b0:=Az (pre:=[]) (rest:=lay x.fl 4++(lay x.rf 4++(lay 0 4++(lay x.ox 8++(lay x.dy 8++x.bs))))) (n:=1464812877) (k:=4) (o:=0) rfl (by decide) (by decide);have b1:=Az (pre:=lay 1464812877 4) (rest:=lay x.rf 4++(lay 0 4++(lay x.ox 8++(lay x.dy 8++x.bs)))) (n:=x.fl) (k:=4) (o:=4) (by simp[qo]) h1.1 (by omega);have b2:=Az (pre:=lay 1464812877 4++lay x.fl 4) (rest:=lay 0 4++(lay x.ox 8++(lay x.dy 8++x.bs))) (n:=x.rf) (k:=4) (o:=8) (by simp[qo]) h2.1 (by omega);have b3:=Az (pre:=lay 1464812877 4++lay x.fl 4++lay x.rf 4) (rest:=lay x.ox 8++(lay x.dy 8++x.bs)) (n:=0) (k:=4) (o:=12) (by simp[qo]) (by decide) (by decide);have b4:=Az (pre:=lay 1464812877 4++lay x.fl 4++lay x.rf 4++lay 0 4) (rest:=lay x.dy 8++x.bs) (n:=x.ox) (k:=8) (o:=16) (by simp[qo]) h3.1 (by omega);have b5:=Az (pre:=lay 1464812877 4++lay x.fl 4++lay x.rf 4++lay 0 4++lay x.ox 8) (rest:=x.bs) (n:=x.dy) (k:=8) (o:=24) (by simp[qo]) h4.1 (by omega);simp only[iy,m8] at b0 b1 b2 b3 b4 b5;rw[<-e] at b0 b1 b2 b3 b4 b5;refine⟨?_,b0,b3⟩;have b6:((ja x).drop 32).take 32=x.bs:=by rw[ja,Ci (I9 x),eW (by rw[hx.len];omega)]
 unfold oK;rw[b1,b2,b4,b5,b6]
theorem ab1 {bs:aJ} (hl:64<=bs.length) (hr:∀b∈bs,0<=b/\b<=255):tf bs=(i9 (oK bs)&&decide (ja (oK bs)=bs)):=by
 have hX:=Ja hl hr;rw[sX];simp only[tf,m6,beq_iff_eq,decide_eq_true_eq];constructor
 .rintro⟨⟨⟨h0,h3⟩,eB⟩,hR⟩;exact⟨hR,ab0 eB hr h0 h3⟩
 .rintro⟨hR,he⟩;obtain⟨_,b0,b3⟩:=Ov hX;rw[he] at b0 b3;have eB:=FB hX;rw[he] at eB;exact⟨⟨⟨b0,b3⟩,eB⟩,hR⟩
end Go.Proofs.YtjhnnnfnkjighaaGreatDoor
namespace Go.Sp
open Go.RowKit Go.ChangeShapes Go.WideShapes Go.Deep
section
variable {H:Type} {enc:TypeId×Value->H} {P:Program} {W:ao} {held:Bool}
theorem amk {k:IntKind} {n:Int} (h:(Lit.int k n).wf=true):k.min<=n/\n<=k.max:=by simpa[Lit.wf] using h
end
end Go.Sp
