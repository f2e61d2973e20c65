/- Whole: a part of the proof. No conditions. -/
import Derived.Test.YtjhnnnfnkjighaaGreatDoorQ01
import Derived.Scope
import Derived.Test.YtjhnnnfnkjighaaGreatDoorProg
import Derived.Eval
set_option linter.unusedVariables false
set_option linter.unusedSimpArgs false
set_option maxRecDepth 100000
namespace Go.Sp
open Go.RowKit
inductive qY where
 |none
 |seq (a b:qY)
 |aZ (a:qY)
 |draw (dj:List (List Nat)) (order:Ord)
 |loop (slots:List (Tmp×Shape)) (a:qY)
 |meet (slots:List (Tmp×Shape)) (a b:qY)
 |range (ame:List Shape) (a b:qY)
structure wS where
 norm:Act->World->Prop
 mq:List (Nat×(Act->World->Prop))
 ret:Act->World->Prop
def wT:List (Nat×(Act->World->Prop))->Nat->Act->World->Prop
 |[],_,_,_=>False
 |(i,q)::l,id,a,w=>if id=i then q a w else wT l id a w
def wS.post (κ:wS):Exit->Act->World->Prop
 |.normal,a,w=>κ.norm a w
 |.exit id,a,w=>wT κ.mq id a w
 |.ret,a,w=>κ.ret a w
 |_,_,_=>False
def oE (β:Type):List (Tmp×Shape)->Type
 |[]=>β
 |(_,.int _)::s=>Int->oE β s
 |(_,.bool)::s=>Bool->oE β s
 |(_,.ptr)::s=>Option Addr->oE β s
 |(_,.slice)::s=>Option Addr->Nat->Nat->oE β s
 |(_,.str)::s=>ByteArray->oE β s
 |(_,.map)::s=>Option Nat->oE β s
 |(_,.agg)::s=>Array Value->oE β s
 |(_,.any)::s=>Value->oE β s
 |(_,.s0)::s=>Addr->oE β s
 |(_,.func)::s=>Fn->Array Value->Array Value->oE β s
def i4 {β:Type}:(s:List (Tmp×Shape))->oE β s->Act->(β->Prop)->Prop
 |[],f,_,K=>K f
 |(t,.int k)::s,f,a,K=>match a.tmps.getD t undef with|.int j n=>if j=k then i4 s (f n) a K else False|_=>False
 |(t,.bool)::s,f,a,K=>match a.tmps.getD t undef with|.bool n=>i4 s (f n) a K|_=>False
 |(t,.ptr)::s,f,a,K=>match a.tmps.getD t undef with|.pointer n=>i4 s (f n) a K|_=>False
 |(t,.slice)::s,f,a,K=>match a.tmps.getD t undef with|.slice p l c=>i4 s (f p l c) a K|_=>False
 |(t,.str)::s,f,a,K=>match a.tmps.getD t undef with|.string n=>i4 s (f n) a K|_=>False
 |(t,.map)::s,f,a,K=>match a.tmps.getD t undef with|.map n=>i4 s (f n) a K|_=>False
 |(t,.agg)::s,f,a,K=>match a.tmps.getD t undef with|.agg n=>i4 s (f n) a K|_=>False
 |(t,.any)::s,f,a,K=>i4 s (f (a.tmps.getD t undef)) a K
 |(t,.s0)::s,f,a,K=>match a.tmps.getD t undef with|.pointer (some n)=>i4 s (f n) a K|_=>False
 |(t,.func)::s,f,a,K=>match a.tmps.getD t undef with|.func x y z=>i4 s (f x y z) a K|_=>False
def qh {β:Type}:(s:List (Tmp×Shape))->oE β s->Act->(β->Act->Prop)->Prop
 |[],f,a,K=>K f a
 |(t,.int k)::s,f,a,K=>∀n:Int,qh s (f n) (a.put (some t) (.int k n)) K
 |(t,.bool)::s,f,a,K=>∀n:Bool,qh s (f n) (a.put (some t) (.bool n)) K
 |(t,.ptr)::s,f,a,K=>∀n:Option Addr,qh s (f n) (a.put (some t) (.pointer n)) K
 |(t,.slice)::s,f,a,K=>∀(p:Option Addr) (l c:Nat),qh s (f p l c) (a.put (some t) (.slice p l c)) K
 |(t,.str)::s,f,a,K=>∀n:ByteArray,qh s (f n) (a.put (some t) (.string n)) K
 |(t,.map)::s,f,a,K=>∀n:Option Nat,qh s (f n) (a.put (some t) (.map n)) K
 |(t,.agg)::s,f,a,K=>∀n:Array Value,qh s (f n) (a.put (some t) (.agg n)) K
 |(t,.any)::s,f,a,K=>∀n:Value,qh s (f n) (a.put (some t) n) K
 |(t,.s0)::s,f,a,K=>∀n:Addr,qh s (f n) (a.put (some t) (.pointer (some n))) K
 |(t,.func)::s,f,a,K=>∀(x:Fn) (y z:Array Value),qh s (f x y z) (a.put (some t) (.func x y z)) K
def lz:Code->List Tmp
 |.region _ ops _=>vA ops
 |.seq a b=>lz a++lz b
 |.cond _ a b=>lz a++lz b
 |.block _ c=>lz c
 |.loop c=>lz c
 |.scope c=>lz c
 |_=>[]
def s8 (u:Nat->Value):List Tmp->Act->Act
 |[],a=>a
 |t::l,a=>s8 u l (a.put (some t) (u t))
abbrev fw (D:Nat):HP:=ob D (.deferred (some []))
def iD (P:Program) (O:World) (gf:FuncId) (lb:Array Value) (bG:Nat->HP) (xs:List (Array Value)):Prop:=
 ∀(f:Fn) (b c:Array Value) (B:Nat->HP) (Bx:HP),(∀X,Cm f X↔X)->(∀j w,V O (B j) w->V O (bG j) w)->
  (∀k x,xs[k]?=some x->∀G w,V O (B k*G) w->gi P f b c x w λv w'=>(v=.bool true/\V O (B (k+1)*G) w')\/(v=.bool false/\V O (Bx*G) w'))->
  ∀F w,V O (B 0*F) w->call P gf (#[.func f b c]++lb) w λ_ w'=>V O (B xs.length*F) w'\/V O (Bx*F) w'
def IB (P:Program) (O:World) (gf:FuncId) (lb:Array Value) (bG:Nat->HP) (n:Nat) (Y:Nat->Array Value->HP->Prop):Prop:=
 ∀(f:Fn) (b c:Array Value) (B:Nat->HP) (Bx:HP),(∀X,Cm f X↔X)->(∀O j w,V O (B j) w->V O (bG j) w)->
  (∀k x H,k<n->Y k x H->∀G w,V O (B k*(H*G)) w->gi P f b c x w λv w'=>(v=.bool true/\V O (B (k+1)*G) w')\/(v=.bool false/\V O (Bx*G) w'))->
  ∀F w,V O (B 0*F) w->call P gf (#[.func f b c]++lb) w λ_ w'=>V O (B n*F) w'\/V O (Bx*F) w'
theorem iD.VW {P:Program} {O:World} {gf:FuncId} {lb:Array Value} {bG:Nat->HP} {xs:List (Array Value)} (h:iD P O gf lb bG xs):IB P O gf lb bG xs.length (λk x H=>xs[k]?=some x/\H=cW):=λf b c B Bx cA hB hy=>h f b c B Bx cA (hB O) λk x hx G w hs=>hy k x cW (ct.1 hx).1 ⟨hx,rfl⟩ G w (hs.cQ.aF (by ac_rfl))
def iR (P:Program) (v:Value) (n:Nat) (B:Array Value->(World->Prop)->(Code->World->Prop)->(World->(World->Prop)->Prop)->World->Prop) (N:Nat->World->Prop) (J:Nat->Code->World->Prop) (w:World):Prop:=
 ∃(O:World) (gf:FuncId) (lb:Array Value) (m:Nat) (Y:Nat->Array Value->HP->Prop) (A:Nat->HP) (Ax:Code->HP),
  v=.func (.func gf) #[] lb/\(∃fn c,P.funcs[gf]?=some fn/\fn.body=some c)/\V O (A 0) w/\(∀k x H,k<m->Y k x H->x.size=n)/\IB P O gf lb A m Y/\
  (∀k x H,k<m->Y k x H->∀G G' T w,(∀H w K,V O (H*G) w->(∀w',V O (H*G') w'->K w')->T w K)->V O (A k*(H*G)) w->
   B x (λw'=>V O (A (k+1)*G') w') (λc w'=>V O (Ax c*G') w') T w)/\
  (∀D w',V O (fw D*A m) w'->N D w')/\(∀D c w',V O (fw D*Ax c) w'->J D c w')
theorem j7 {P:Program} {v:Value} {n:Nat} {B:Array Value->(World->Prop)->(Code->World->Prop)->(World->(World->Prop)->Prop)->World->Prop} {N:Nat->World->Prop} {J:Nat->Code->World->Prop} {w:World} (h:∃(O:World) (gf:FuncId) (lb:Array Value) (xs:List (Array Value)) (A:Nat->HP) (Ax:Code->HP), v=.func (.func gf) #[] lb/\(∃fn c,P.funcs[gf]?=some fn/\fn.body=some c)/\V O (A 0) w/\(∀x∈xs,x.size=n)/\iD P O gf lb A xs/\ (∀k x,xs[k]?=some x->∀G G' T w,(∀H w K,V O (H*G) w->(∀w',V O (H*G') w'->K w')->T w K)->V O (A k*G) w-> B x (λw'=>V O (A (k+1)*G') w') (λc w'=>V O (Ax c*G') w') T w)/\ (∀D w',V O (fw D*A xs.length) w'->N D w')/\(∀D c w',V O (fw D*Ax c) w'->J D c w')):iR P v n B N J w:=by obtain⟨O,gf,lb,xs,A,Ax,h1,h2,h3,h4,h5,h6,h7,h8⟩:=h;exact⟨O,gf,lb,xs.length,_,A,Ax,h1,h2,h3,λk x H _ hY=>h4 x (dF hY.1),h5.VW,λk x H _ hY G G' T w hT hs=>h6 k x hY.1 G G' T w hT (by have h:=hs;rw[hY.2] at h;exact(h.aF (B:=cW*(A k*G)) (by ac_rfl)).Ah),h7,h8⟩
def jmp (c:Code) (r:Prop) (es:List (Nat×Prop)):Prop:=
 match c with
 |.ret=>r
 |.exit id=>go es id
 |_=>False
where go:List (Nat×Prop)->Nat->Prop
 |[],_=>False
 |(i,p)::l,id=>if id=i then p else go l id
def jr:Code->Bool
 |.seq a b=>jr a||jr b
 |.cond _ a b=>jr a||jr b
 |.block _ c=>jr c
 |.loop c=>jr c
 |.scope c=>jr c
 |.rangeFunc ..=>true
 |_=>false
def uh:Code->List Nat
 |.seq a b=>uh a++uh b
 |.cond _ a b=>uh a++uh b
 |.block _ c=>uh c
 |.loop c=>uh c
 |.scope c=>uh c
 |.exit id=>[id]
 |_=>[]
def wU:Code->Bool
 |.seq a b=>wU a||wU b
 |.cond _ a b=>wU a||wU b
 |.block _ c=>wU c
 |.loop c=>wU c
 |.scope c=>wU c
 |.ret=>true
 |_=>false
def vD (ids:List Nat) {α:Type}:List (Nat×α)->List (Nat×α)
 |[]=>[]
 |(i,x)::l=>match ids.contains i with|true=>(i,x)::vD ids l|false=>vD ids l
def cmp (P:Program) (top:Bool):qY->Code->wS->Act->World->Prop
 |_,.skip,κ,a,w=>κ.norm a w
 |n,.region _ ops draw,κ,a,w=>match n with
  |.draw dj l=>Cv P ops draw dj l κ.norm a w
  |_=>Cv P ops draw [] .nil κ.norm a w
 |n,.seq x y,κ,a,w=>match n with
  |.seq qi qk=>cmp P top qi x {κ with norm:=λa w=>cmp P top qk y κ a w} a w
  |.meet s qi qk=>match jr x with
   |true=>False
   |false=>∃J:oE (World->Prop) s,
    cmp P top qi x {κ with norm:=λa w=>i4 s J a λj=>j w} a w/\
    ∀u:Nat->Value,qh s J (s8 u (lz x) a) λj a=>∀w,j w->cmp P top qk y κ a w
  |_=>cmp P top .none x {κ with norm:=λa w=>cmp P top .none y κ a w} a w
 |n,.cond c x y,κ,a,w=>match a.eval c with
  |.bool b=>match n with
   |.seq qi qk=>br b (cmp P top qi x κ a w) (cmp P top qk y κ a w)
   |_=>br b (cmp P top .none x κ a w) (cmp P top .none y κ a w)
  |_=>False
 |n,.block id c,κ,a,w=>match n with
  |.aZ n=>cmp P top n c {κ with mq:=(id,κ.norm)::κ.mq} a w
  |_=>cmp P top .none c {κ with mq:=(id,κ.norm)::κ.mq} a w
 |_,.exit id,κ,a,w=>wT κ.mq id a w
 |_,.ret,κ,a,w=>κ.ret a w
 |n,.loop c,κ,a,w=>match n with
  |.loop s n=>match jr c with
   |true=>∃I:oE (List Deferred->World->Nat->Prop) s,
    (∃m,i4 s I a λi=>i a.defers w m)/\
    ∀(u:Nat->Value) (ds:List Deferred),qh s I (s8 u (lz c) {a with defers:=ds}) λi a=>∀w m,i ds w m->
     cmp P top n c {κ with norm:=λa' w'=>∃m',m'<m/\i4 s I a' λi=>i a'.defers w' m'} a w
   |false=>∃I:oE (World->Nat->Prop) s,
    (∃m,i4 s I a λi=>i w m)/\
    ∀u:Nat->Value,qh s I (s8 u (lz c) a) λi a=>∀w m,i w m->
     cmp P top n c {κ with norm:=λa' w'=>∃m',m'<m/\i4 s I a' λi=>i w' m'} a w
  |_=>False
 |n,.rangeFunc g ps assign body,κ,a,w=>match n with
  |.range shs n0 n=>match top with
   |true=>iR P (a.eval g) ps.size
    (λxs N J T w=>ph shs λvs=>xs=vs.toArray/\
     cmp P false n0 assign {norm:=λa' w=>T w λw=>cmp P false n body {norm:=λ_ w=>N w,mq:=(vD (uh body) κ.mq).map λ(i,_)=>(i,λ_ w=>J (.exit i) w),ret:=λ_ w=>J .ret w} a' w,mq:=[],ret:=λ_ _=>False}
      {tmps:=(ps.zip vs.toArray).foldl (λt (p,v)=>t.setIfInBounds p v) a.tmps,defers:=[]} w)
    (λD w=>κ.norm {a with defers:={target:=.collected D,args:=#[]}::a.defers} w)
    (λD c w=>jmp c (match wU body with|true=>κ.ret {a with defers:={target:=.collected D,args:=#[]}::a.defers} w|false=>False)
     ((vD (uh body) κ.mq).map λ(i,q)=>(i,q {a with defers:={target:=.collected D,args:=#[]}::a.defers} w))) w
   |false=>False
  |_=>False
 |_,.label _,κ,a,w=>κ.norm a w
 |n,.scope c,κ,a,w=>match top with
  |true=>match n with
   |.aZ n=>cmp P true n c κ a w
   |_=>cmp P true .none c κ a w
  |false=>False
 |_,_,_,_,_=>False
theorem NL (u:Nat->Value):∀(L:List Tmp) (a:Act),(s8 u L a).defers=a.defers
 |[],_=>rfl
 |t::L,a=>(NL u L _).trans rfl
theorem NN (u:Nat->Value):∀(L:List Tmp) (a:Act) (t:Nat),(s8 u L a).tmps[t]?=if t∈L/\t<a.tmps.size then some (u t) else a.tmps[t]?
 |[],_,_=>by simp[s8]
 |x::L,a,t=>by
  simp only[s8];rw[NN u L];simp only[Act.put,Array.size_setIfInBounds,B1,pa];by_cases h1:t∈L<;>by_cases h2:t<a.tmps.size<;>by_cases h3:x=t;all_goals (try subst h3)
  all_goals simp_all
  all_goals (intro h;exact absurd h.symm h3)
theorem IC {L:List Tmp} {a b:Act} (h:kJ L a b):s8 (λt=>b.tmps.getD t undef) L a=b:=by
 have hd:=(NL (λt=>b.tmps.getD t undef) L a).trans h.defers.symm;have ht:(s8 (λt=>b.tmps.getD t undef) L a).tmps=b.tmps:=by
  apply Array.ext_getElem?;intro t;rw[NN];split
  .rename_i hh;have:t<b.tmps.size:=by rw[h.size];exact hh.2
   simp[this]
  .rename_i hh;by_cases hL:t∈L
   .have:¬t<a.tmps.size:=λx=>hh ⟨hL,x⟩;rw[B7 (by omega),B7 (by rw[h.size];omega)]
   .exact(h.tmps t hL).symm
 cases hs:s8 (λt=>b.tmps.getD t undef) L a with
 |mk x y=>rw[hs] at hd ht;cases b;simp only at hd ht;rw[hd,ht]
theorem vE {a:Act} {t:Nat} {v:Value} (h:a.tmps.getD t undef=v) (hv:v≠undef):a.put (some t) v=a:=by
 refine ue ?_;rw[yh] at h;cases hx:a.tmps[t]? with
 |none=>rw[hx] at h;exact absurd h.symm hv
 |some x=>rw[hx] at h;simp at h;rw[h]
theorem VX {a:Act} {t:Nat}:a.put (some t) (a.tmps.getD t undef)=a:=by
 cases hx:a.tmps[t]? with
 |none=>
  have:a.tmps.size<=t:=by simpa using hx
  cases a;simp only[Act.put,Act.mk.injEq,and_true];exact Array.setIfInBounds_eq_of_size_le this
 |some x=>exact ue (by rw[hx,yh,hx];rfl)
theorem qZ {β:Type}:∀(s:List (Tmp×Shape)) {f:oE β s} {a:Act} {G:β->Prop} {K:β->Act->Prop},qh s f a K->i4 s f a G->∃b,G b/\K b a
 |[],f,a,G,K,h,g=>⟨f,g,h⟩
 |(t,.int k)::s,f,a,G,K,h,g=>by
  simp only[i4] at g;split at g<;>try exact g.elim
  rename_i j n hv;split at g<;>try exact g.elim
  rename_i hj;subst hj;have:=h n;rw[vE hv (by simp[undef])] at this;exact qZ s this g
 |(t,.bool)::s,f,a,G,K,h,g=>by
  simp only[i4] at g;split at g<;>try exact g.elim
  rename_i n hv;have:=h n;rw[vE hv (by simp[undef])] at this;exact qZ s this g
 |(t,.ptr)::s,f,a,G,K,h,g=>by
  simp only[i4] at g;split at g<;>try exact g.elim
  rename_i n hv;have:=h n;rw[vE hv (by simp[undef])] at this;exact qZ s this g
 |(t,.slice)::s,f,a,G,K,h,g=>by
  simp only[i4] at g;split at g<;>try exact g.elim
  rename_i p l c hv;have:=h p l c;rw[vE hv (by simp[undef])] at this;exact qZ s this g
 |(t,.s0)::s,f,a,G,K,h,g=>by
  simp only[i4] at g;split at g<;>try exact g.elim
  rename_i n hv;have:=h n;rw[vE hv (by simp[undef])] at this;exact qZ s this g
 |(t,.func)::s,f,a,G,K,h,g=>by
  simp only[i4] at g;split at g<;>try exact g.elim
  rename_i x y z hv;have:=h x y z;rw[vE hv (by simp[undef])] at this;exact qZ s this g
 |(t,.str)::s,f,a,G,K,h,g=>by
  simp only[i4] at g;split at g<;>try exact g.elim
  rename_i n hv;have:=h n;rw[vE hv (by simp[undef])] at this;exact qZ s this g
 |(t,.map)::s,f,a,G,K,h,g=>by
  simp only[i4] at g;split at g<;>try exact g.elim
  rename_i n hv;have:=h n;rw[vE hv (by simp[undef])] at this;exact qZ s this g
 |(t,.agg)::s,f,a,G,K,h,g=>by
  simp only[i4] at g;split at g<;>try exact g.elim
  rename_i n hv;have:=h n;rw[vE hv (by simp[undef])] at this;exact qZ s this g
 |(t,.any)::s,f,a,G,K,h,g=>by simp only[i4] at g;have:=h (a.tmps.getD t undef);rw[VX] at this;exact qZ s this g
theorem ui {p:Nat->Prop} (h:∃m,p m):∃m,p m/\∀k,p k->m<=k:=by
 obtain⟨m,hm⟩:=h;induction m using Nat.strongRecOn with
 |_ m ih=>
  by_cases hx:∃k,k<m/\p k
  .obtain⟨k,hk,hp⟩:=hx;exact ih k hk hp
  .exact⟨m,hm,λk hk=>Nat.le_of_not_lt λaQ=>hx ⟨k,aQ,hk⟩⟩
structure js (L:List Tmp) (r:Bool) (a b:Act):Prop where
 defers:r=false->b.defers=a.defers
 size:b.tmps.size=a.tmps.size
 tmps:∀t,t∉L->b.tmps[t]?=a.tmps[t]?
theorem js.refl (L:List Tmp) (r:Bool) (a:Act):js L r a a:=⟨λ_=>rfl,rfl,λ_ _=>rfl⟩
theorem js.trans {L M N:List Tmp} {r s q:Bool} {a b c:Act} (h:js L r a b) (k:js M s b c) (hL:∀t∈L,t∈N) (hM:∀t∈M,t∈N) (hr:q=false->r=false) (hs:q=false->s=false):js N q a c:=⟨λe=>(k.defers (hs e)).trans (h.defers (hr e)),k.size.trans h.size,λt ht=>(k.tmps t λx=>ht (hM t x)).trans (h.tmps t λx=>ht (hL t x))⟩
theorem js.wider {L N:List Tmp} {r q:Bool} {a b:Act} (h:js L r a b) (hL:∀t∈L,t∈N) (hr:q=false->r=false):js N q a b:=⟨λe=>h.defers (hr e),h.size,λt ht=>h.tmps t λx=>ht (hL t x)⟩
theorem js.NO {L:List Tmp} {a b:Act} (h:js L false a b):kJ L a b:=⟨h.defers rfl,h.size,h.tmps⟩
theorem kJ.VY {L:List Tmp} {r:Bool} {a b:Act} (h:kJ L a b):js L r a b:=⟨λ_=>h.defers,h.size,h.tmps⟩
def wS.out (κ:wS) (c:Code) (a:Act):Exit->Act->World->Prop:=λe a' w'=>js (lz c) (jr c) a a'/\κ.post e a' w'
theorem NP {P:Program} {r:Option Nat} {n:Nat} {x y:Code} {κ:wS} {N:Act->World->Prop} {a:Act} {w:World} (hx:x.wpIn (FW r) n P ({κ with norm:=N}.out x a) a w) (hy:∀a' w',js (lz x) (jr x) a a'->N a' w'->y.wpIn (FW r) n P (κ.out y a') a' w'):(Code.seq x y).wpIn (FW r) n P (κ.out (.seq x y) a) a w:=by
 have e1:jr (Code.seq x y)=false->jr x=false:=λh=>by simp only[jr,B9] at h;exact h.1
 have e2:jr (Code.seq x y)=false->jr y=false:=λh=>by simp only[jr,B9] at h;exact h.2
 have m1:∀t∈lz x,t∈lz (Code.seq x y):=λt ht=>fj.2 (.inl ht);refine wpIn_seq (wpIn_mono hx ?_);rintro e a' w' ⟨hA,hk⟩;cases e with
 |normal=>refine wpIn_mono (hy a' w' hA hk) ?_;rintro e2' a2 w2 ⟨uj,mn⟩;exact⟨hA.trans uj m1 (λt ht=>fj.2 (.inr ht)) e1 e2,mn⟩
 |exit id=>exact⟨hA.wider m1 e1,hk⟩
 |ret=>exact⟨hA.wider m1 e1,hk⟩
 |goto l=>exact hk.elim
 |panic c=>exact hk.elim
 |outgrown=>exact hk.elim
theorem VZ {es:List (Nat×(Act->World->Prop))} {J:Code->World->Prop} {id:Nat} {a:Act} {w:World} (h:wT (es.map λ(i,_)=>(i,λ_ w=>J (.exit i) w)) id a w):J (.exit id) w:=by
 induction es with
 |nil=>exact h.elim
 |cons e es ih=>
  simp only[jo,wT] at h;split at h
  .rename_i e';rw[e'];exact h
  .exact ih h
theorem V0 {es:List (Nat×(Act->World->Prop))} {ids:List Nat} {id:Nat} {a:Act} {w:World} (h:jmp.go ((vD ids es).map λ(i,q)=>(i,q a w)) id):wT es id a w:=by
 induction es with
 |nil=>exact h.elim
 |cons e es ih=>
  obtain⟨i,q⟩:=e;simp only[vD] at h;simp only[wT];split at h
  .simp only[jo,jmp.go] at h;split at h
   .rename_i e';rw[if_pos e'];exact h
   .rename_i hc e';rw[if_neg e'];exact ih h
  .rename_i hc;split
   .exfalso;rename_i e';subst e';have:∀(l:List (Nat×(Act->World->Prop))),jmp.go ((vD ids l).map λ(i,q)=>(i,q a w)) id->ids.contains id=true:=by
     intro l;induction l with
     |nil=>exact λh=>h.elim
     |cons x l NQ=>
      obtain⟨j,qj⟩:=x;intro hh;simp only[vD] at hh;split at hh
      .rename_i Fh;simp only[jo,jmp.go] at hh;split at hh
       .rename_i e2;rw[e2];exact Fh
       .exact NQ hh
      .exact NQ hh
    rw[this _ h] at hc;cases hc
   .exact ih h
theorem V1 {P:Program} {n:Nat} (hp:Plain P) {g:Operand} {ps:Array Tmp} {assign body:Code} {shs:List Shape} {a:Act} {w:World} {Q:Exit->Act->World->Prop} {Bd:Act->(World->Prop)->(Code->World->Prop)->(World->(World->Prop)->Prop)->World->Prop} (V2:∀(l:Nat) (a:Act) (N:World->Prop) (J:Code->World->Prop) (T:World->(World->Prop)->Prop) (w:World),(∀w K K',T w K->(∀w',K w'->K' w')->T w K')->Bd a N J T w-> assign.wpIn (FW (some l)) 0 P (λe a' w'=>match e with |.normal=>T w' λw2=>body.wpIn (FW (some l)) 0 P (λe _ w'=>match e with|.normal=>N w'|.ret=>J .ret w'|.exit id=>J (.exit id) w'|_=>False) a' w2 |_=>False) a w) {N:Nat->World->Prop} {J:Nat->Code->World->Prop} (h:iR P (a.eval g) ps.size (λxs N J T w=>ph shs λvs=>xs=vs.toArray/\ Bd {tmps:=(ps.zip vs.toArray).foldl (λt (p,v)=>t.setIfInBounds p v) a.tmps,defers:=[]} N J T w) N J w) (hN:∀D w',N D w'->Q .normal {a with defers:={target:=.collected D,args:=#[]}::a.defers} w') (hJ:∀D c w',J D c w'->c.wpIn (FW none) n P Q {a with defers:={target:=.collected D,args:=#[]}::a.defers} w'): (Code.rangeFunc g ps assign body).wpIn (FW none) n P Q a w:=by
 obtain⟨O,gf,lb,m,Y,A,Ax,hv,⟨NR,c0,pq,V3⟩,hS,wV,hI,hB,V4,V5⟩:=h;have Cz:¬NR.name= "runtime.NumGoroutine" :=by simpa using hp gf NR pq
 refine wpIn_rangeFunc ?_;intro fn _;obtain⟨rec,vF⟩:∃rec:LoopState->Option Code->Loop,rec=λst pe=>{state:=st,pending:=pe,fn,tmps:=a.tmps,params:=ps,assign,body,defers:=w.heap.size}:=⟨_,rfl⟩;have fW:V O (fw w.heap.size*A 0) (w.alloc (.deferred (some []))):=hS.alloc _;have gu:V O (ob (w.heap.size+1) (.loop (rec .ready none))*(fw w.heap.size*A 0)) ((w.alloc (.deferred (some []))).alloc (.loop (rec .ready none))):=by have:=fW.alloc (.loop (rec .ready none));rwa[World.size_alloc] at this
 refine⟨w.heap.size+1,[{target:=.collected w.heap.size,args:=#[]}],(w.alloc (.deferred (some []))).alloc (.loop (rec .ready none)),{target:=.fn (.func gf) lb,args:=#[.func (.yield (w.heap.size+1)) #[] #[]]},(w.alloc (.deferred (some []))).alloc (.loop (rec .ready none)),gf,#[.func (.yield (w.heap.size+1)) #[] #[]]++lb,(w.alloc (.deferred (some []))).alloc (.loop (rec .ready none)),?_,?_,λ_ _=>trivial,?_,λhd=>by simp[FW] at hd,Iq.2 ?_⟩
 .rw[vF];exact run_enterLoop_outer _ _ _ _ _
 .simp only[resolve,hv];simp[go_sem]
 .simp only[invoke,callFunc,Sem.run_bind];simp only[program,Sem.run,Result.andThen_ok];simp[pq,V3,Cz]
 have cA:∀X,Cm (.yield (w.heap.size+1)) X↔X:=λX=>Iff.rfl;refine Calls.mono (hI (.yield (w.heap.size+1)) #[] #[] (λk=>ob (w.heap.size+1) (.loop (rec .ready none))*A k) (ex λc=>ob (w.heap.size+1) (.loop (rec .done (some c)))*Ax c) cA (λ_ _ w' h=>h.right) ?_ (fw w.heap.size) _ (gu.aF (by ac_rfl))) ?_
 .intro k x H NS hx G w1 h1;have gO:V O (ob (w.heap.size+1) (.loop (rec .ready none))*(A k*(H*G))) w1:=h1.aF (by ac_rfl);have hl:=gO.ob;have hy:=run_yield (P:=P) (args:=x) hl (by rw[vF];exact wV k x H NS hx);rw[vF] at hy;refine⟨fn,_,assign,body,(congrArg (λz=>(Instr.yield (w.heap.size+1) z).run P w1) (Array.empty_append:#[]++x=x)).trans hy,?_⟩;have hb:=hB k x H NS hx (ob (w.heap.size+1) (.loop (rec .ready none))*G) (ob (w.heap.size+1) (.loop {rec .ready none with state:=.busy})*G) (λw1 K=>w1.heap[w.heap.size+1]?=some (.loop (rec .ready none))/\K (w1.putObj (w.heap.size+1) (.loop {rec .ready none with state:=.busy}))) w1 (λH w2 K h2 hk=>by have h3:=h2.aF (Fb _ _ _);exact⟨h3.ob,hk _ ((h3.putObj _).aF (Fb _ _ _))⟩) (gO.aF (by ac_rfl));obtain⟨vs,rfl,ID⟩:=Nf hb;refine roundIn_of_wpIn (F:=FW none) trivial ?_;refine wpIn_mono (V2 (w.heap.size+1) _ _ _ _ _ (λw K K' hT hk=>⟨hT.1,hk _ hT.2⟩) ID) ?_;rintro e a' w2 ql;cases e with
  |normal=> ?_
  |_=>exact ql.elim
  obtain⟨vG,ql⟩:=ql;refine⟨_,run_beginRound vG (by rw[vF]),?_⟩;refine wpIn_mono ql ?_;have fin:∀(jump:Option Code) (H:HP) (W3:World),V O (H*(ob (w.heap.size+1) (.loop {rec .ready none with state:=.busy})*G)) W3->(Instr.endRound (w.heap.size+1) jump).run P W3=.ok (.bool jump.isNone) (W3.putObj (w.heap.size+1) (.loop (rec (if jump.isNone then .ready else .done) jump)))/\V O (ob (w.heap.size+1) (.loop (rec (if jump.isNone then .ready else .done) jump))*(H*G)) (W3.putObj (w.heap.size+1) (.loop (rec (if jump.isNone then .ready else .done) jump))):=by intro jump H W3 h3;have qX:=h3.aF (Fb _ _ _);have:=run_endRound (P:=P) jump qX.ob;rw[vF] at this qX ⊢;exact⟨this,qX.putObj _⟩
  rintro e a3 W3 hp;cases e with
  |normal=>obtain⟨hr,hs⟩:=fin none _ W3 hp;exact⟨_,_,hr,_,rfl,.inl ⟨rfl,hs.aF (by simp only[Option.isNone_none,if_true];ac_rfl)⟩⟩
  |ret=>obtain⟨hr,hs⟩:=fin (some .ret) _ W3 hp;exact⟨_,_,hr,_,rfl,.inr ⟨rfl,V.bO .ret (hs.aF (by simp only[Option.isNone_some,lS,if_false];ac_rfl))⟩⟩
  |exit id=>obtain⟨hr,hs⟩:=fin (some (.exit id)) _ W3 hp;exact⟨_,_,hr,_,rfl,.inr ⟨rfl,V.bO (.exit id) (hs.aF (by simp only[Option.isNone_some,lS,if_false];ac_rfl))⟩⟩
  |goto l=>exact hp.elim
  |panic c=>exact hp.elim
  |outgrown=>exact hp.elim
 .rintro e w3 ⟨v,rfl,h3⟩;rcases h3 with h3|h3
  .have qX:V O (ob (w.heap.size+1) (.loop (rec .ready none))*(fw w.heap.size*A m)) w3:=h3.aF (by ac_rfl);have yz:=run_endLoop (P:=P) qX.ob (by rw[vF];simp);have hs:=qX.putObj (.loop {rec .ready none with state:=.exhausted});refine⟨none,w3.putObj (w.heap.size+1) (.loop {rec .ready none with state:=.exhausted}),?_,hN _ _ (V4 _ _ hs.right)⟩;rw[vF] at yz ⊢;exact yz
  .obtain⟨c,h3⟩:=h3.ex;have qX:V O (ob (w.heap.size+1) (.loop (rec .done (some c)))*(fw w.heap.size*Ax c)) w3:=h3.aF (by ac_rfl);have yz:=run_endLoop (P:=P) qX.ob (by rw[vF];simp);have hs:=qX.putObj (.loop {rec .done (some c) with state:=.exhausted});refine⟨some c,w3.putObj (w.heap.size+1) (.loop {rec .done (some c) with state:=.exhausted}),?_,hJ _ _ _ (V5 _ _ _ hs.right)⟩;rw[vF] at yz ⊢;exact yz
theorem IE {P:Program} (hp:Plain P) (hm:P.follows .mixedOrders=true) (c:Code):∀(r:Option Nat) (m:Nat) (n:qY) (κ:wS) (a:Act) (w:World),cmp P r.isNone n c κ a w->c.wpIn (FW r) m P (κ.out c a) a w:=by
 induction c with
 |skip=>exact λr m n κ a w h=>wpIn_skip ⟨js.refl _ _ _,by cases n<;>exact h⟩
 |region id ops draw=>
  intro r m n κ a w h;have hr:∃dj l,Cv P ops draw dj l κ.norm a w:=by cases n<;>exact⟨_,_,h⟩
  obtain⟨dj,l,hr⟩:=hr;refine wpIn_mono (VL hp hm hr) ?_;rintro e a' w' ⟨rfl,hA,hk⟩;exact⟨hA.VY,hk⟩
 |seq x y Fi Fj=>
  intro r m n κ a w h;have plain:∀qi qk,cmp P r.isNone qi x {κ with norm:=λa w=>cmp P r.isNone qk y κ a w} a w->(Code.seq x y).wpIn (FW r) m P (κ.out (.seq x y) a) a w:=λqi qk h=>NP (Fi _ _ _ _ _ _ h) λa' w' _ hk=>Fj _ _ _ _ _ _ hk;cases n with
  |seq qi qk=>exact plain qi qk h
  |meet s qi qk=>
   simp only[cmp] at h;split at h
   .exact h.elim
   rename_i hR;obtain⟨J,h1,h2⟩:=h;refine NP (Fi _ _ _ _ _ _ h1) λa' w' hA hk=> ?_;have h3:=h2 (λt=>a'.tmps.getD t undef);rw[hR] at hA;rw[IC hA.NO] at h3;obtain⟨j,hj,hK⟩:=qZ s h3 hk;exact Fj _ _ _ _ _ _ (hK w' hj)
  |none=>exact plain .none .none h
  |aZ _=>exact plain .none .none h
  |draw _ _=>exact plain .none .none h
  |loop _ _=>exact plain .none .none h
  |range _ _ _=>exact plain .none .none h
 |cond c x y Fi Fj=>
  intro r m n κ a w h;cases hc:a.eval c with
  |bool b=>
   have hb:∃qi qk,br b (cmp P r.isNone qi x κ a w) (cmp P r.isNone qk y κ a w):=by cases n<;>(simp only[cmp,hc] at h;exact⟨_,_,h⟩)
   obtain⟨qi,qk,hb⟩:=hb;rcases Ij hb with⟨rfl,hb⟩|⟨rfl,hb⟩
   .refine wpIn_cond_true hc (wpIn_mono (Fi _ _ _ _ _ _ hb) ?_);rintro e a' w' ⟨hA,hk⟩;exact⟨hA.wider (λt ht=>fj.2 (.inl ht)) (λh=>by simp only[jr,B9] at h;exact h.1),hk⟩
   .refine wpIn_cond_false hc (wpIn_mono (Fj _ _ _ _ _ _ hb) ?_);rintro e a' w' ⟨hA,hk⟩;exact⟨hA.wider (λt ht=>fj.2 (.inr ht)) (λh=>by simp only[jr,B9] at h;exact h.2),hk⟩
  |_=>cases n<;>(simp only[cmp,hc] at h)
 |block id c ih=>
  intro r m n κ a w h;have hb:∃n,cmp P r.isNone n c {κ with mq:=(id,κ.norm)::κ.mq} a w:=by cases n<;>exact⟨_,h⟩
  obtain⟨n,hb⟩:=hb;refine wpIn_block (wpIn_mono (ih _ _ _ _ _ _ hb) ?_);rintro e a' w' ⟨hA,hk⟩;cases e with
  |normal=>exact⟨hA,hk⟩
  |exit id'=>
   simp only[wS.post,wT] at hk;simp only[Exit.inBlock];split at hk
   .rename_i e;rw[if_pos e];exact⟨hA,hk⟩
   .rename_i e;rw[if_neg e];exact⟨hA,hk⟩
  |ret=>exact⟨hA,hk⟩
  |goto l=>exact hk.elim
  |panic c=>exact hk.elim
  |outgrown=>exact hk.elim
 |exit id=>exact λr m n κ a w h=>wpIn_exit ⟨js.refl _ _ _,by cases n<;>exact h⟩
 |ret=>exact λr m n κ a w h=>wpIn_ret ⟨js.refl _ _ _,by cases n<;>exact h⟩
 |loop c ih=>
  intro r mm n κ a w h;cases n with
  |loop s n=>
   simp only[cmp] at h;split at h
   .rename_i hR;obtain⟨I,⟨IF,h0⟩,IG⟩:=h;let G:Act->World->Nat->Prop:=λa' w' m=>js (lz c) true a a'/\i4 s I a' λi=>i a'.defers w' m;let μ:Act->World->Nat:=λa' w'=>@dite _ (∃m,G a' w' m) (Classical.propDecidable _) (λh=>Classical.choose (ui h)) (λ_=>0);have IH:∀{a' w'} (h:∃m,G a' w' m),G a' w' (μ a' w'):=by intro a' w' h;have:μ a' w'=Classical.choose (ui h):=dif_pos h;rw[this];exact(EF (ui h)).1
    have hle:∀{a' w' m},G a' w' m->μ a' w'<=m:=by intro a' w' m h;have:μ a' w'=Classical.choose (ui ⟨m,h⟩):=dif_pos ⟨m,h⟩;rw[this];exact(EF (ui ⟨m,h⟩)).2 _ h
    refine wpIn_loop (λa' w'=>∃m,G a' w' m) μ ⟨IF,js.refl _ _ _,h0⟩ ?_;intro a' w' hI;obtain⟨hA,hi⟩:=IH hI;have h3:=IG (λt=>a'.tmps.getD t undef) a'.defers;have vH:kJ (lz c) {a with defers:=a'.defers} a':=⟨rfl,hA.size,hA.tmps⟩;rw[IC vH] at h3;obtain⟨i,Aj,hK⟩:=qZ s h3 hi;refine wpIn_mono (ih _ _ _ _ _ _ (hK w' _ Aj)) ?_;rintro e a2 w2 ⟨uj,hk⟩;have q8:js (lz c) true a a2:=hA.trans uj (λ_ h=>h) (λ_ h=>h) (λh=>by cases h) (λh=>by cases h);have yA:js (lz (.loop c)) (jr (.loop c)) a a2:=q8.wider (λ_ h=>h) (λh=>by rw[show jr (.loop c)=jr c from rfl,hR] at h;cases h);cases e with
    |normal=>obtain⟨m',aQ,hk⟩:=hk;exact⟨⟨m',q8,hk⟩,Nat.lt_of_le_of_lt (hle ⟨q8,hk⟩) aQ⟩
    |exit id=>exact⟨yA,hk⟩
    |ret=>exact⟨yA,hk⟩
    |goto l=>exact hk.elim
    |panic c=>exact hk.elim
    |outgrown=>exact hk.elim
   rename_i hR;obtain⟨I,⟨IF,h0⟩,IG⟩:=h;let G:Act->World->Nat->Prop:=λa' w' m=>js (lz c) false a a'/\i4 s I a' λi=>i w' m;let μ:Act->World->Nat:=λa' w'=>@dite _ (∃m,G a' w' m) (Classical.propDecidable _) (λh=>Classical.choose (ui h)) (λ_=>0);have IH:∀{a' w'} (h:∃m,G a' w' m),G a' w' (μ a' w'):=by intro a' w' h;have:μ a' w'=Classical.choose (ui h):=dif_pos h;rw[this];exact(EF (ui h)).1
   have hle:∀{a' w' m},G a' w' m->μ a' w'<=m:=by intro a' w' m h;have:μ a' w'=Classical.choose (ui ⟨m,h⟩):=dif_pos ⟨m,h⟩;rw[this];exact(EF (ui ⟨m,h⟩)).2 _ h
   refine wpIn_loop (λa' w'=>∃m,G a' w' m) μ ⟨IF,js.refl _ _ _,h0⟩ ?_;intro a' w' hI;obtain⟨hA,hi⟩:=IH hI;have h3:=IG (λt=>a'.tmps.getD t undef);rw[IC hA.NO] at h3;obtain⟨i,Aj,hK⟩:=qZ s h3 hi;refine wpIn_mono (ih _ _ _ _ _ _ (hK w' _ Aj)) ?_;rintro e a2 w2 ⟨uj,hk⟩;have q8:js (lz c) false a a2:=hA.trans uj (λ_ h=>h) (λ_ h=>h) (λ_=>rfl) (λ_=>hR);have yA:js (lz (.loop c)) (jr (.loop c)) a a2:=q8.wider (λ_ h=>h) (λ_=>rfl);cases e with
   |normal=>obtain⟨m',aQ,hk⟩:=hk;exact⟨⟨m',q8,hk⟩,Nat.lt_of_le_of_lt (hle ⟨q8,hk⟩) aQ⟩
   |exit id=>exact⟨yA,hk⟩
   |ret=>exact⟨yA,hk⟩
   |goto l=>exact hk.elim
   |panic c=>exact hk.elim
   |outgrown=>exact hk.elim
  |_=>exact h.elim
 |rangeFunc g ps assign body V6 V7=>
  intro r mm n κ a w h;cases n with
  |range shs n0 n=>
   cases r with
   |some l=>exact h.elim
   |none=>
    have vH:∀D,js (lz (.rangeFunc g ps assign body)) (jr (.rangeFunc g ps assign body)) a {a with defers:={target:=.collected D,args:=#[]}::a.defers}:=λD=>⟨λh=>(by simp[jr] at h),rfl,λ_ _=>rfl⟩;refine V1 (shs:=shs) (Bd:=λa' N J T w=>cmp P false n0 assign {norm:=λa' w=>T w λw=>cmp P false n body {norm:=λ_ w=>N w,mq:=(vD (uh body) κ.mq).map λ(i,_)=>(i,λ_ w=>J (.exit i) w),ret:=λ_ w=>J .ret w} a' w,mq:=[],ret:=λ_ _=>False} a' w) (hp:=hp) ?_ h ?_ ?_
    .intro l a' N J T w' hT hb;refine wpIn_mono (V6 (some l) _ _ _ _ _ hb) ?_;rintro e a2 w2 ⟨_,hk⟩;cases e with
     |normal=>
      refine hT _ _ _ hk λw3 hk=> ?_;refine wpIn_mono (V7 (some l) _ _ _ _ _ hk) ?_;rintro e a2 w2 ⟨_,hk⟩;cases e with
      |normal=>exact hk
      |ret=>exact hk
      |exit id=>exact VZ hk
      |goto l=>exact hk.elim
      |panic c=>exact hk.elim
      |outgrown=>exact hk.elim
     |ret=>exact hk.elim
     |exit id=>exact hk.elim
     |goto l=>exact hk.elim
     |panic c=>exact hk.elim
     |outgrown=>exact hk.elim
    .exact λD w' hk=>⟨vH D,hk⟩
    .intro D c w' hj;unfold jmp at hj;split at hj
     .refine wpIn_ret ⟨vH D,?_⟩;split at hj
      .exact hj
      .exact hj.elim
     .rename_i id;exact wpIn_exit ⟨vH D,V0 hj⟩
     .exact hj.elim
  |_=>exact h.elim
 |label l=>exact λr m n κ a w h=>wpIn_label ⟨js.refl _ _ _,by cases n<;>exact h⟩
 |scope c ih=>
  intro r m n κ a w h;cases r with
  |some l=>exact h.elim
  |none=>
   have hb:∃n,cmp P true n c κ a w:=by cases n<;>exact⟨_,h⟩
   obtain⟨n,hb⟩:=hb;refine ET.2 (wp_scope_straight (ET.1 (wpIn_mono (ih none m n κ a w hb) ?_)));rintro e a' w' ⟨hA,hk⟩;cases e with
   |goto l=>exact hk.elim
   |_=>exact⟨hA,hk⟩
 |_=>intro r m n κ a w h;cases n<;>exact h.elim
def Ak (P:Program) (tmps:Array Value):List ResultVar->World->(List Value->Prop)->Prop
 |[],w,K=>K []
 |.tmp t::rs,w,K=>Ak P tmps rs w λvs=>K (tmps.getD t undef::vs)
 |.cell a t::rs,w,K=>Cq P t (tmps.getD a undef) w λv _=>Ak P tmps rs w λvs=>K (v::vs)
def Fk (R:Value->World->Prop) (w:World) (vs:List Value):Prop:=
 match vs with
 |[v]=>R v w
 |vs=>R (.tuple vs.toArray) w
def gP (D:Nat) (w:World) (K:World->Prop):Prop:=w.heap[D]?=some (.deferred (some []))/\K (w.putObj D (.deferred none))
def CA:List Deferred->World->(World->Prop)->Prop
 |[],w,K=>K w
 |d::ds,w,K=>match d.target with
  |.collected D=>gP D w λw=>CA ds w K
  |_=>False
def Fl (P:Program) (fn:Func) (R:Value->World->Prop) (a:Act) (w:World):Prop:=
 CA a.defers w λw=>Ak P a.tmps fn.results.toList w (Fk R w)
theorem II {P:Program} {tmps:Array Value} {w:World}:∀{rs:List ResultVar} {K:List Value->Prop},Ak P tmps rs w K-> ∃vs,K vs/\(rs.mapM (m:=Sem) λ|.tmp t=>pure (tmps.getD t undef)|.cell a t=>do loadVar t (<-asAddr (tmps.getD a undef))).run P w=.ok vs w
 |[],K,h=>⟨[],h,by simp⟩
 |.tmp t::rs,K,h=>by obtain⟨vs,hk,hr⟩:=II (rs:=rs) h;refine⟨_,hk,?_⟩;rw[List.mapM_cons];simp[-Array.getD_eq_getD_getElem?,hr]
 |.cell a t::rs,K,h=>by
  obtain⟨v,S,hk,hS,hl⟩:=Ip h;obtain⟨vs,hk,hr⟩:=II (rs:=rs) hk;refine⟨_,hk,?_⟩;have hl:=hl w hS;rw[List.mapM_cons];cases hx:tmps.getD a undef with
  |pointer p=>
   rw[hx] at hl;cases p with
   |none=>simp[Instr.loadAt,Instr.sureAddr,stuck] at hl
   |some a'=>
    simp[Instr.loadAt,Instr.sureAddr] at hl;have ha:(asAddr (tmps.getD a undef)).run P w=.ok a' w:=by rw[hx];rfl
    simp[-Array.getD_eq_getD_getElem?,ha,hl,hr]
  |_=>rw[hx] at hl;simp[Instr.loadAt,Instr.sureAddr,stuck] at hl
theorem NT {P:Program} {fn:Func} {R:Value->World->Prop} {a:Act} {w:World} (h:Ak P a.tmps fn.results.toList w (Fk R w)): ∃v,(results fn a.tmps).run P w=.ok v w/\R v w:=by
 obtain⟨vs,hk,hr⟩:=II h;have e:(results fn a.tmps).run P w=.ok (if h:vs.toArray.size=1 then vs.toArray[0] else .tuple vs.toArray) w:=by unfold results;rw[Array.mapM_eq_mapM_toList];simp only[Sem.run_bind,Sem.run_map,Sem.run_pure];have h2:=congrArg (λr=>(Result.andThen r λ(vs:List Value) w'=>Result.ok vs.toArray w').andThen λ(vs:Array Value) w'=>Result.ok (if h:vs.size=1 then vs[0] else Value.tuple vs) w') hr;exact h2
 refine⟨_,e,?_⟩;unfold Fk at hk;split at hk
 .simpa using hk
 .rename_i cp;rw[dif_neg]
  .exact hk
  .intro h1;obtain⟨v,rfl⟩:=List.length_eq_one_iff.1 (by simpa using h1);exact cp v rfl
theorem NU {P:Program} {n:Nat} {fn:Func} {R:Value->World->Prop} {a:Act} {w:World} (h:Fl P fn R a w): LeavesInM (FW none) n P fn a.tmps (λe w'=>∃v,e=.returned v/\R v w') a.defers .returning w:=by
 unfold Fl at h;generalize a.defers=ds at h;induction ds generalizing w with
 |nil=>obtain⟨v,hr,hR⟩:=NT h;exact⟨v,hr,v,rfl,hR⟩
 |cons d ds ih=>
  simp only[CA] at h;split at h<;>try exact h.elim
  rename_i D hD;obtain⟨hb,h⟩:=h;exact⟨by simp,.inl ⟨D,_,hD,run_takeDeferred hb,ih h⟩⟩
def IJ (P:Program) (fn:Func) (n:qY) (args:Array Value) (R:Value->World->Prop) (w:World):Prop:=
 match fn.body with
 |some c=>cmp P true n c {norm:=Fl P fn R,mq:=[],ret:=Fl P fn R} {tmps:=args++Array.replicate (fn.ntmps- args.size) undef,defers:=[]} w
 |none=>False
theorem V8 {P:Program} (hp:Plain P) (hm:P.follows .mixedOrders=true) {f:FuncId} {fn:Func} (hf:P.funcs[f]?=some fn) (n:qY) {args:Array Value} {R:Value->World->Prop} {w:World} (h:IJ P fn n args R w):call P f args w R:=by
 unfold IJ at h;split at h<;>try exact h.elim
 rename_i c hb;refine(Iq (r:=none) (n:=0)).1 (callsIn_of_wp_marks hf hb trivial (wpIn_mono (IE hp hm c none 0 n _ _ _ h) ?_) rfl);rintro e a w' ⟨_,hk⟩;cases e with
 |normal=>exact NU hk
 |ret=>exact NU hk
 |exit id=>exact hk.elim
 |goto l=>exact hk.elim
 |panic c=>exact hk.elim
 |outgrown=>exact hk.elim
end Go.Sp
namespace Go.Proofs.YtjhnnnfnkjighaaGreatDoor
open Go.Sp
theorem plain:Plain Tryz.prog:=by
 have h:(Tryz.prog.funcs.toList.all λfn=> !(fn.name== "runtime.NumGoroutine"))=true:=by kernel_rfl
 intro f fn hf;have:=se.1 h fn (by simpa using Array.mem_of_getElem? hf);simpa using this
theorem IK:Tryz.prog.follows .mixedOrders=true:=by kernel_rfl
abbrev ae (f:FuncId) (a:aM) (w:ao) (R:Value->ao->Prop):Prop:=call Tryz.prog f a w R
noncomputable abbrev au:Program:=Tryz.prog
def ai (a:qY):qY:=.seq .none a
def bq (l:List Nat):List (List Nat):=l.map λm=>(List.range 32).filter λi=>m.testBit i
def bJ (n:Nat):Ord:=ol (List.range n) .nil
theorem aO (n:qY) {f:FuncId} {fn:Func} {args:aM} {R:nE} {w:ao} {p:Prop} (hf:Tryz.prog.funcs[f]?=some fn) (e:p=IJ Tryz.prog fn n args R w:=by kernel_rfl) (h:p):call Tryz.prog f args w R:=V8 plain IK hf n (Eq.mp e h)
variable {R:nE} {w:ao}
theorem V9 {a b:Int}:(br (decide (a<1)) (R (ak #[ag none,aa 1]) w) (br (decide (a>1000)) (R (ak #[ag none,aa 1]) w) (br (decide (b<1)) (R (ak #[ag none,aa 1]) w) (br (decide (b>1000)) (R (ak #[ag none,aa 1]) w) (arith .i64 (a*b) λa=>uc w λb c=>new #[aa a,aa 0,.map (some b)] 202 c λa b=>R (ak #[al a,aa 0]) b)))))->ae 38 #[aa a,aa b] w R:=aO .none Tryz.func38
theorem Wa {a:av}:(new #[ag a] 123 w λa b=>aX (aD a) b λc=>br c.isNone (R aP b) (aX (aD a) b λc=>nn c λd=>ax .i64 (d.add 1) b λd=>arith .i64 (d+1) λd=>nn c λc=>st (c.add 1) (aa d) b λb=>new #[aP] 25 b λb c=>aX (aD a) c λd=>ae 163 #[ag d] c λc d=>jq c λc e f=>iR au (.func c e f) 2 (λc d _ e f=>∃(g:Int) (h:Int),c=#[ah g,aa h]/\e f λc=>aX (aD a) c.drew λe=>nn e λe=>ax .i64 (e.add 1) c.drew λe=>arith .i64 (e- h) λe=>aX (aD a) c.drew λf=>nn f λf=>ax .i64 (f.add 0) c.drew λf=>br (decide (e>=f)) (aL (aD b) c.drew λe f h=>new #[ah g] 26 c.drew λc i=>bR au (Builtin.append_ #[25,25] 25 #[af e f h,af (aU c) 1 1]) i λc e f h=>st (aD b) (af c e f) h λb=>aX (aD a) b λa=>nn a λa=>iY (a.add 2) b λa=>zZ au #[200,26] 0 a (ah g) b λa=>d a) (d c.drew)) (λa c=>aL (aD b) c λb d e=>gP a c λa=>R (af b d e) a) (λ_ a _=>jmp a (False) []) d))->ae 91 #[ag a] w R:=aO (ai (ai (ai (ai (.seq (ai (.aZ (.range [.int .u64,.int .i64] .none (.aZ (.seq (.draw (bq [0,1,3,7,0,31,0,64,192,448,1023]) (bJ 11)) .none))))) .none))))) Tryz.func91
theorem Wb {a:av}:(br a.isNone (R (aa 0) w) (nn a λa=>ax .i64 (a.add 1) w λa=>R (aa a) w))->ae 94 #[ag a] w R:=aO .none Tryz.func94
theorem Wc {a:Int}:(new lr 30 w λb c=>new lr 30 c λc d=>∃e:Int->ao->Nat->Prop,(∃a,e 0 d a)/\∀(_:bo) (d:Int) (f:ao) (g:Nat),e d f g->br (decide (d<8)) (arith .i64 (15- d) λb=>arith .i64 (8*d) λh=>shr .u64 a h λa=>arith .u8 a λa=>j5 (aD c) 16 b 1 λb=>st b (.int .u8 a) f λa=>arith .i64 (d+1) λb=>∃c,c<g/\e b a c) (aA (aD c) 16 f λa=>aS au (aD b) 16 a f λa=>aA (aD b) 16 a λb=>R (an b) a))->ae 136 #[ah a] w R:=aO (ai (ai (.seq (ai (.aZ (.loop [(5,.int .i64)] .none))) .none))) Tryz.func136
theorem Wd {a:av} {b c:Nat} {d:av} {e f:Nat}:(EM au (convert 192 9 (af a b c)) w λa b=>EM au (convert 192 9 (af d e f)) b λb c=>R (aC (a.toList==b.toList)) c)->ae 139 #[af a b c,af d e f] w R:=aO .none Tryz.func139
theorem We {a:av} {b:Int}:(ae 248 #[ag a,ah b] w λc d=>cX c λc=>br (!c) (R (aa 12) d) (nn a λc=>iY (c.add 2) d.drew λc=>nn a λa=>ax .i64 (a.add 1) d.drew λa=>qU au 200 c (ah b) (aa a) d.drew λa=>R (aa 0) a))->ae 162 #[ag a,ah b] w R:=aO (ai (ai (.seq (.draw (bq [0,1,3,7,0,0,32,96,224,511]) (bJ 10)) .none))) Tryz.func162
theorem Wf {a:av}:(new #[ag a] 123 w λa b=>R (.func (.func 249) #[] #[al a]) b)->ae 163 #[ag a] w R:=aO .none Tryz.func163
theorem Wg {a:av} {b:Int}:(br a.isNone (R (aH 0) w) (nn a λa=>iY (a.add 1) w λa=>nG au 502 a (ah b) false w λa=>bp .u32 a λa=>R (aH a) w))->ae 164 #[ag a,ah b] w R:=aO .none Tryz.func164
theorem Wh {a:av} {b c:Int}:(ae 164 #[ag a,ah b] w λd e=>bp .u32 d λd=>br a.isNone (R (ak #[aH d,aa 4]) e) (br (decide (c>d)) (R (ak #[aH d,aa 4]) e) (arith .u32 (d- c) λc=>ae 253 #[ag a,ah b,aH c] e λa b=>bp .u32 a λa=>R (ak #[aH a,aa 0]) b)))->ae 165 #[ag a,ah b,aH c] w R:=aO .none Tryz.func165
theorem Wi {a:av} {b c:Nat}:(arith .u64 ((b:Int)) λd=>ae 257 #[ah d] w λd e=>bp .i64 d λd=>ae 256 #[af a b c,aa 0,aa ((b:Int)),aa d] e λa b=>a=aT/\R aT b)->ae 168 #[af a b c] w R:=aO .none Tryz.func168
theorem Wj {a:av} {b c:Nat}:(br (decide ((b:Int)<2)) (R (af a b c) w) (∃d:Int->ao->Nat->Prop,(∃a,d 1 w a)/\∀(_:bo) (e:Int) (f:ao) (g:Nat),d e f g->br (decide (e<(b:Int))) (ba a b e 1 λh=>ax .u64 h f.drew λh=>arith .i64 (e- 1) λi=>ba a b i 1 λi=>ax .u64 i f.drew λi=>br (h==i) (fD a c 1 e ((b:Int)) λd g _=>∃h:Int->Int->ao->Nat->Prop,(∃a,h e 1 f.drew a)/\∀(_:bo) (e:Int) (f:Int) (i:ao) (j:Nat),h e f i j->br (decide (f<(g:Int))) (ba d g f 1 λc=>ax .u64 c i.drew λc=>arith .i64 (f- 1) λk=>ba d g k 1 λk=>ax .u64 k i.drew λk=>br (c !=k) (ba d g f 1 λc=>ax .u64 c i.drew λc=>ba a b e 1 λa=>st a (ah c) i.drew λa=>arith .i64 (e+1) λb=>arith .i64 (f+1) λc=>∃d,d<j/\h b c a d) (arith .i64 (f+1) λa=>∃b,b<j/\h e a i.drew b)) (fD a c 1 e ((b:Int)) λb d f=>EN au #[25] 0 b d f i λb=>fD a c 1 0 e λa c d=>R (af a c d) b)) (arith .i64 (e+1) λa=>∃b,b<g/\d a f.drew b)) (R (af a b c) f)))->ae 169 #[af a b c] w R:=aO (ai (ai (.seq (ai (.aZ (.loop [(3,.int .i64)] (ai (.seq (.aZ (.seq (.draw (bq [0,0,3,7,0,0,32,112,240,511]) (bJ 10)) (.seq (ai (.seq (ai (.aZ (.loop [(3,.int .i64),(5,.int .i64)] (ai (.seq (.aZ (.seq (.draw (bq [0,0,3,7,0,0,32,112,240,511]) (bJ 10)) .none)) .none))))) .none)) .none))) .none))))) .none))) Tryz.func169
theorem Wk {a:av} {b:Int}:(br a.isNone (R (aC false) w) (ae 248 #[ag a,ah b] w λc d=>cX c λc=>nn a λe=>iY (e.add 2) d.drew λe=>nn a λa=>ax .i64 (a.add 1) d.drew λa=>qU au 200 e (ah b) (aa a) d.drew λa=>R (aC (!c)) a))->ae 201 #[ag a,ah b] w R:=aO (ai (ai (ai (.seq (.draw (bq [0,1,3,7,0,0,32,96,224,511]) (bJ 10)) .none)))) Tryz.func201
theorem Wl {a:av} {b c:Int}:(ae 164 #[ag a,ah b] w λd e=>bp .u32 d λd=>br a.isNone (R (ak #[aH d,aa 4]) e) (nn a λf=>ax .u32 (f.add 0) e λf=>arith .u32 (f- d) λf=>br (decide (c>f)) (R (ak #[aH d,aa 4]) e) (arith .u32 (d+c) λc=>ae 253 #[ag a,ah b,aH c] e λa b=>bp .u32 a λa=>R (ak #[aH a,aa 0]) b)))->ae 247 #[ag a,ah b,aH c] w R:=aO .none Tryz.func247
theorem Wm {a:av} {b:Int}:(br a.isNone (R (aC false) w) (nn a λa=>iY (a.add 2) w λa=>nG au 200 a (ah b) true w λa=>∃(b:Int) (c:Bool),a=ak #[aa b,aC c]/\R (aC c) w))->ae 248 #[ag a,ah b] w R:=aO .none Tryz.func248
theorem Wn {a:Fn} {b c:aM} {d:Addr}:(aX d w λe=>br e.isNone (R aT w) (aX d w λd=>nn d λd=>iY (d.add 2) w λd=>ae 250 #[.map d] w λd e=>z5 d λd=>ae 252 #[.map d] e λe f=>jq e λe g h=>ae 251 #[.func e g h] f λe f=>gI e λe g _=>∃h:Int->ao->Nat->Prop,(∃a,h 0 f a)/\∀(_:bo) (f:Int) (i:ao) (j:Nat),h f i j->br (decide (f<(g:Int))) (ba e g f 1 λe=>ax .u64 e i λe=>nG au 200 d (ah e) false i λd=>bp .i64 d λd=>gi au a b c #[ah e,aa d] i λa b=>cX a λa=>br (!a) (R aT b) (arith .i64 (f+1) λa=>∃c,c<j/\h a b c)) (R aT i)))->ae 249 #[.func a b c,ag (some d)] w R:=aO (ai (ai (ai (.aZ (.loop [(17,.int .i64)] .none))))) Tryz.func249
theorem Wo {a:Fn} {b c:aM}:(ae 317 #[.func a b c] w λa b=>gI a λa c d=>ae 168 #[af a c d] b λb e=>b=aT/\R (af a c d) e)->ae 251 #[.func a b c] w R:=aO .none Tryz.func251
theorem Wp {a:Option Nat}:(new #[.map a] 200 w λa b=>R (.func (.func 318) #[] #[al a]) b)->ae 252 #[.map a] w R:=aO .none Tryz.func252
theorem Wq {a:av} {b c:Int}:(br (c==0) (nn a λa=>iY (a.add 1) w λa=>zZ au #[502,26] 0 a (ah b) w λa=>R (aH c) a) (nn a λa=>iY (a.add 1) w λa=>qU au 502 a (ah b) (aH c) w λa=>R (aH c) a))->ae 253 #[ag a,ah b,aH c] w R:=aO .none Tryz.func253
theorem Ws {a:av}:(new #[ah 0] 26 w λb c=>st (aD b) (ah 0) c λc=>ae 319 #[ag a] c λa c=>jq a λa d e=>iR au (.func a d e) 2 (λa c _ d e=>∃(f:Int) (g:Int),a=#[ah f,aH g]/\d e λa=>ax .u64 (aD b) a λd=>arith .u64 g λe=>arith .u64 (d+e) λd=>st (aD b) (ah d) a λa=>c a) (λa c=>ax .u64 (aD b) c λb=>gP a c λa=>R (ah b) a) (λ_ a _=>jmp a (False) []) c)->ae 255 #[ag a] w R:=aO (ai (ai (.seq (ai (.aZ (.range [.int .u64,.int .u32] .none .none))) .none))) Tryz.func255
theorem Wt {a:av} {b c:Nat} {d e f:Int}:(∃g:Int->Int->Int->Bool->Bool->ao->Nat->Prop,(∃a,g d e f true true w a)/\∀(_:bo) (d:Int) (e:Int) (f:Int) (h:Bool) (i:Bool) (j:ao) (k:Nat),g d e f h i j k->arith .i64 (e- d) λl=>br (decide (l<=12)) (ae 320 #[af a b c,aa d,aa e] j λa b=>a=aT/\R aT b) (br (f==0) (ae 321 #[af a b c,aa d,aa e] j λa b=>a=aT/\R aT b) (∃m:Int->ao->Prop,(br (!h) (ae 322 #[af a b c,aa d,aa e] j λa b=>a=aT/\arith .i64 (f- 1) λa=>m a b) (m f j))/\∀(_:bo) (f:Int) (j:ao),m f j->ae 323 #[af a b c,aa d,aa e] j λj m=>∃(n:Int) (o:Int),j=ak #[aa n,aa o]/\∃j:Int->Int->ao->Prop,(br (o==2) (ae 324 #[af a b c,aa d,aa e] m λa b=>a=aT/\arith .i64 (e- 1) λa=>arith .i64 (n- d) λc=>arith .i64 (a- c) λa=>j a 1 b) (j n o m))/\∀(_:bo) (m:Int) (n:Int) (o:ao),j m n o->∃j:ao->Prop,(br h (br i (br (n==1) (ae 325 #[af a b c,aa d,aa e] o λa b=>cX a λa=>br a (R aT b) (j b)) (j o)) (j o)) (j o))/\∀(_:bo) (n:ao),j n->∃j:Int->ao->Prop,(br (decide (d>0)) (arith .i64 (d- 1) λl=>ba a b l 1 λl=>ax .u64 l n.drew λl=>ba a b m 1 λo=>ax .u64 o n.drew λo=>ae 326 #[ah l,ah o] n.drew λl n=>cX l λl=>br (!l) (ae 327 #[af a b c,aa d,aa e,aa m] n λa b=>bp .i64 a λa=>∃c,c<k/\g a e f h i b c) (j d n)) (j d n.drew))/\∀(_:bo) (d:Int) (h:ao),j d h->ae 328 #[af a b c,aa d,aa e,aa m] h λh i=>∃(j:Int) (m:Bool),h=ak #[aa j,aC m]/\arith .i64 (j- d) λh=>arith .i64 (e- j) λn=>quo .i64 l 8 λl=>br (decide (h<n)) (ae 256 #[af a b c,aa d,aa j,aa f] i λa b=>a=aT/\arith .i64 (j+1) λa=>∃c,c<k/\g a e f (decide (h>=l)) m b c) (arith .i64 (j+1) λh=>ae 256 #[af a b c,aa h,aa e,aa f] i λa b=>a=aT/\∃a,a<k/\g d j f (decide (n>=l)) m b a))))->ae 256 #[af a b c,aa d,aa e,aa f] w R:=aO (ai (ai (.aZ (.loop [(1,.int .i64),(2,.int .i64),(3,.int .i64),(8,.bool),(9,.bool)] (.aZ (ai (ai (ai (.meet [(3,.int .i64)] .none (ai (.meet [(11,.int .i64),(12,.int .i64)] .none (.meet [] .none (.meet [(1,.int .i64)] (.seq (.draw (bq [0,1,3,7,7,23,63,127,7,7,775,1799,4095,8191,16383]) (bJ 15)) .none) .none))))))))))))) Tryz.func256
theorem Wu {a:Int}:(ae 330 #[ah a] w λa b=>bp .i64 a λa=>R (aa a) b)->ae 257 #[ah a] w R:=aO .none Tryz.func257
theorem Wv {a:aM}:(new a 30 w λa b=>fD (aU a) 16 1 8 ((16:Int)) λc d _=>∃e:Int->Int->ao->Nat->Prop,(∃a,e 0 0 b a)/\∀(_:bo) (b:Int) (f:Int) (g:ao) (h:Nat),e b f g h->br (decide (f<(d:Int))) (ba c d f 1 λa=>ax .u8 a g λa=>shl .u64 b 8 λb=>arith .u64 a λa=>arith .i64 (f+1) λc=>∃d,d<h/\e (gr .or .u64 b a) c g d) (aA (aD a) 16 g.drew λc=>ae 136 #[ah b] g.drew λd e=>jU d λd=>qb (cellsOf (aD a) c) e (still au (Op.equal 30 (an d) (an c)) λa=>br (!a) (R (ak #[ah 0,aC false]) e) (R (ak #[ah b,aC true]) e))))->ae 303 #[an a] w R:=aO (ai (ai (.seq (ai (.aZ (.loop [(4,.int .u64),(9,.int .i64)] .none))) (.seq (.seq (.draw (bq [0,1,0,7]) (ol [0,2,1,3] .nil)) .none) .none)))) Tryz.func303
theorem Ww {a:Fn} {b c:aM}:(ae 371 #[aP,.func a b c] w λa b=>gI a λa c d=>R (af a c d) b)->ae 317 #[.func a b c] w R:=aO .none Tryz.func317
theorem Wx {a:av}:(new #[ag a] 325 w λa b=>R (.func (.func 372) #[] #[al a]) b)->ae 319 #[ag a] w R:=aO .none Tryz.func319
theorem Wy {a:av} {b z0:Nat} {c d:Int}:(arith .i64 (c+1) λe=>∃f:Int->ao->Nat->Prop,(∃a,f e w a)/\∀(_:bo) (e:Int) (g:ao) (h:Nat),f e g h->br (decide (e<d)) (∃d:Int->ao->Nat->Prop,(∃a,d e g a)/\∀(_:bo) (g:Int) (i:ao) (j:Nat),d g i j->br (decide (g>c)) (ba a b g 1 λc=>ax .u64 c i.drew λc=>arith .i64 (g- 1) λk=>ba a b k 1 λk=>ax .u64 k i.drew λk=>ae 326 #[ah c,ah k] i.drew λc i=>cX c λc=>br c (arith .i64 (g- 1) λc=>arith .i64 (g- 1) λe=>ba a b e 1 λe=>ax .u64 e i.drew λe=>ba a b g 1 λf=>ax .u64 f i.drew λf=>ba a b g 1 λh=>st h (ah e) i.drew λe=>ba a b c 1 λa=>st a (ah f) e λa=>arith .i64 (g- 1) λb=>∃c,c<j/\d b a c) (arith .i64 (e+1) λa=>∃b,b<h/\f a i b)) (arith .i64 (e+1) λa=>∃b,b<h/\f a i.drew b)) (R aT g))->ae 320 #[af a b z0,aa c,aa d] w R:=aO (ai (.aZ (.loop [(6,.int .i64)] (ai (.seq (.aZ (ai (.aZ (.loop [(7,.int .i64)] (.seq (.seq (.draw (bq [0,0,3,7,15,15,63,127,15,15,527,1807,3855,8191,16383]) (bJ 15)) .none) (.seq (.aZ (.draw (bq [0,0,0,0,8,0,0,64,224,480,0,0,3072,7168,16355,32739,65535,131071]) (bJ 18))) .none)))))) .none))))) Tryz.func320
theorem Wz {a b:Int}:(ae 380 #[ah a] w λc d=>cX c λc=>br c (ae 380 #[ah b] d λc d=>cX c λc=>br (!c) (R (aC true) d) (R (aC (decide (a<b))) d)) (R (aC (decide (a<b))) d))->ae 326 #[ah a,ah b] w R:=aO .none Tryz.func326
theorem WA {a:Int}:(∃b:Int->Int->ao->Prop,(br (decide (a>=4294967296)) (shr .u64 a 32 λa=>b a 32 w) (b a 0 w))/\∀(_:bo) (a:Int) (c:Int) (d:ao),b a c d->∃b:Int->Int->ao->Prop,(br (decide (a>=65536)) (shr .u64 a 16 λa=>arith .i64 (c+16) λc=>b a c d) (b a c d))/\∀(_:bo) (a:Int) (c:Int) (d:ao),b a c d->br (decide (a>=256)) (shr .u64 a 8 λa=>arith .i64 (c+8) λb=>arith .u8 a λa=>EL (⟨#[0,1,2,2,3,3,3,3,4,4,4,4,4,4,4,4,5,5,5,5,5,5,5,5,5,5,5,5,5,5,5,5,6,6,6,6,6,6,6,6,6,6,6,6,6,6,6,6,6,6,6,6,6,6,6,6,6,6,6,6,6,6,6,6,7,7,7,7,7,7,7,7,7,7,7,7,7,7,7,7,7,7,7,7,7,7,7,7,7,7,7,7,7,7,7,7,7,7,7,7,7,7,7,7,7,7,7,7,7,7,7,7,7,7,7,7,7,7,7,7,7,7,7,7,7,7,7,7,8,8,8,8,8,8,8,8,8,8,8,8,8,8,8,8,8,8,8,8,8,8,8,8,8,8,8,8,8,8,8,8,8,8,8,8,8,8,8,8,8,8,8,8,8,8,8,8,8,8,8,8,8,8,8,8,8,8,8,8,8,8,8,8,8,8,8,8,8,8,8,8,8,8,8,8,8,8,8,8,8,8,8,8,8,8,8,8,8,8,8,8,8,8,8,8,8,8,8,8,8,8,8,8,8,8,8,8,8,8,8,8,8,8,8,8,8,8,8,8,8,8,8,8,8,8,8,8]⟩:ByteArray) a λa=>arith .i64 a λa=>arith .i64 (b+a) λa=>R (aa a) d) (arith .u8 a λa=>EL (⟨#[0,1,2,2,3,3,3,3,4,4,4,4,4,4,4,4,5,5,5,5,5,5,5,5,5,5,5,5,5,5,5,5,6,6,6,6,6,6,6,6,6,6,6,6,6,6,6,6,6,6,6,6,6,6,6,6,6,6,6,6,6,6,6,6,7,7,7,7,7,7,7,7,7,7,7,7,7,7,7,7,7,7,7,7,7,7,7,7,7,7,7,7,7,7,7,7,7,7,7,7,7,7,7,7,7,7,7,7,7,7,7,7,7,7,7,7,7,7,7,7,7,7,7,7,7,7,7,7,8,8,8,8,8,8,8,8,8,8,8,8,8,8,8,8,8,8,8,8,8,8,8,8,8,8,8,8,8,8,8,8,8,8,8,8,8,8,8,8,8,8,8,8,8,8,8,8,8,8,8,8,8,8,8,8,8,8,8,8,8,8,8,8,8,8,8,8,8,8,8,8,8,8,8,8,8,8,8,8,8,8,8,8,8,8,8,8,8,8,8,8,8,8,8,8,8,8,8,8,8,8,8,8,8,8,8,8,8,8,8,8,8,8,8,8,8,8,8,8,8,8,8,8,8,8,8,8]⟩:ByteArray) a λa=>arith .i64 a λa=>arith .i64 (c+a) λa=>R (aa a) d))->ae 330 #[ah a] w R:=aO (ai (.meet [(0,.int .u64),(2,.int .i64)] .none (.meet [(0,.int .u64),(2,.int .i64)] .none .none))) Tryz.func330
theorem WB {a:Int}:(uc w λb c=>new #[aH a,.map (some b)] 504 c λa b=>R (al a) b)->ae 342 #[aH a] w R:=aO .none Tryz.func342
theorem WC {a:av} {b c:Nat} {d:Fn} {e f:aM}:(new #[af a b c] 25 w λa b=>iR au (.func d e f) 1 (λb c _ d e=>∃(f:Int),b=#[ah f]/\d e λb=>aL (aD a) b λd e g=>new #[ah f] 26 b λb f=>bR au (Builtin.append_ #[25,25] 25 #[af d e g,af (aU b) 1 1]) f λb d e f=>st (aD a) (af b d e) f λa=>c a) (λb c=>aL (aD a) c λa d e=>gP b c λb=>R (af a d e) b) (λ_ a _=>jmp a (False) []) b)->ae 371 #[af a b c,.func d e f] w R:=aO (ai (.seq (ai (.aZ (.range [.int .u64] .none .none))) .none)) Tryz.func371
theorem WD {a:Fn} {b c:aM} {d:Addr}:(aX d w λe=>br e.isNone (R aT w) (aX d w λd=>nn d λd=>iY (d.add 1) w λd=>ae 373 #[.map d] w λd e=>z5 d λd=>ae 374 #[.map d] e λe f=>jq e λe g h=>ae 251 #[.func e g h] f λe f=>gI e λe g _=>∃h:Int->ao->Nat->Prop,(∃a,h 0 f a)/\∀(_:bo) (f:Int) (i:ao) (j:Nat),h f i j->br (decide (f<(g:Int))) (ba e g f 1 λe=>ax .u64 e i λe=>nG au 502 d (ah e) false i λd=>bp .u32 d λd=>gi au a b c #[ah e,aH d] i λa b=>cX a λa=>br (!a) (R aT b) (arith .i64 (f+1) λa=>∃c,c<j/\h a b c)) (R aT i)))->ae 372 #[.func a b c,ag (some d)] w R:=aO (ai (ai (ai (.aZ (.loop [(17,.int .i64)] .none))))) Tryz.func372
theorem WE {a:Option Nat}:(new #[.map a] 502 w λa b=>R (.func (.func 409) #[] #[al a]) b)->ae 374 #[.map a] w R:=aO .none Tryz.func374
theorem WG {a:Int}:(R (aC (a !=a)) w)->ae 380 #[ah a] w R:=aO .none Tryz.func380
end Go.Proofs.YtjhnnnfnkjighaaGreatDoor
