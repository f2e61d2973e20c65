/- Whole: a part of the proof. No conditions. -/
import Derived.Test.YtjhnnnfnkjighaaGreatDoorQ00
import Derived.OrdersIn
import Derived.RangeFuncRecord
import Derived.Laws.AppendOwn
import Derived.Laws.BytesArg
import Derived.Deep.Draws
set_option linter.unusedVariables false
set_option linter.unusedSimpArgs false
set_option maxRecDepth 100000
namespace Go.Sp
open Go.RowKit
def Cq (P:Program) (t:TypeId) (va:Value) (w:World) (K:Value->List (Addr×Value)->Prop):Prop:=
 match va with
 |.pointer (some a)=>
  match lv P t with
  |.int k=>ax k a w λn=>K (.int k n) [(a,.int k n)]
  |.bool=>fL a w λn=>K (.bool n) [(a,.bool n)]
  |.ptr=>aX a w λn=>K (.pointer n) [(a,.pointer n)]
  |.slice=>aL a w λp l c=>K (.slice p l c) [(a,.slice p l c)]
  |.str=>UQ a w λn=>K (.string n) [(a,.string n)]
  |.map=>iY a w λn=>K (.map n) [(a,.map n)]
  |.agg=>match P.info? t with|some i=>aA a i.size w λvs=>K (.agg vs) (cellsOf a vs)|none=>False
  |.any=>match P.underlying t with|some _=>UR a w λv=>K v [(a,v)]|none=>False
  |.s0=>False
  |.func=>zX a w λf b c=>K (.func f b c) [(a,.func f b c)]
 |_=>False
theorem run_load {P:Program} {t:TypeId} {d:TypeDesc} (h:P.underlying t=some d) (hs:lv P t≠.agg) {a:Addr} {v:Value} {w:World} (hv:w.cell? a=some v): (Instr.loadAt t (.pointer (some a))).run P w=.ok v w:=by simp[Instr.loadAt,Instr.sureAddr,loadVar,Ng h hs,load,Sem.run,hv]
theorem Nq {P:Program} {a:Addr} {w:World}:∀(n i:Nat) (acc vs:Array Value),vs.size=n->(∀j,j<n->w.cell? (a.add (i+j))=vs[j]?)-> (loadCellsFrom a i n acc).run P w=.ok (acc++vs) w:=by
 intro n;induction n with
 |zero=>intro i acc vs hn _;have:vs=#[]:=Array.eq_empty_of_size_eq_zero hn;subst this;simp[loadCellsFrom]
 |succ n ih=>
  intro i acc vs hn hc;have h0:=hc 0 (by omega);simp only[sZ] at h0;have hv:vs[0]?=some (vs[0]'(by omega)):=by simp[hn]
  rw[hv] at h0;have hr:=ih (i+1) (acc.push (vs[0]'(by omega))) (vs.extract 1 vs.size) (by simp;omega) (λj hj=>by have:=hc (j+1) (by omega);rw[show i+1+j=i+(j+1) by omega,this];simp[ED,hn,hj,Nat.add_comm]);simp only[loadCellsFrom,load,Sem.run_bind];simp only[Sem.run,h0,Result.andThen_ok];rw[hr];congr 1;apply cT;obtain⟨l⟩:=vs;cases l with
  |nil=>simp at hn
  |cons x l=>simp
theorem Vf {P:Program} {t:TypeId} {i:TypeInfo} (hs:lv P t=.agg) (hi:P.info? t=some i) {a:Addr} {vs:Array Value} {w:World} (hn:vs.size=i.size) (hv:∀j,j<i.size->w.cell? (a.add j)=vs[j]?):(Instr.loadAt t (.pointer (some a))).run P w=.ok (.agg vs) w:=by have:=Nq (P:=P) (a:=a) (w:=w) i.size 0 #[] vs hn (by simpa using hv);simp[Instr.loadAt,Instr.sureAddr,loadVar,Cn hs,na hi,loadCells,this]
theorem ES {a:Addr} {vs:Array Value} {w:World}:(∀p∈cellsOf a vs,w.cell? p.1=some p.2)↔∀j,j<vs.size->w.cell? (a.add j)=vs[j]?:=by
 constructor
 .intro h j hj;have:=h (a.add j,vs[j]) (by simp only[cellsOf,fC];exact⟨(vs[j],j),by simp[List.mem_zipIdx_iff_getElem?,hj],rfl⟩);simpa[hj] using this
 .intro h p hp;simp only[cellsOf,fC] at hp;obtain⟨⟨v,j⟩,hm,rfl⟩:=hp;simp only[List.mem_zipIdx_iff_getElem?] at hm;have hj:j<vs.size:=by have:=ct.1 hm;simpa using this.1
  rw[h j hj];simpa using hm
theorem Ip {P:Program} {t:TypeId} {va:Value} {w:World} {K:Value->List (Addr×Value)->Prop} (h:Cq P t va w K): ∃v S,K v S/\(∀p∈S,w.cell? p.1=some p.2)/\∀w',(∀p∈S,w'.cell? p.1=some p.2)->(Instr.loadAt t va).run P w'=.ok v w':=by
 unfold Cq at h;split at h<;>try exact h.elim
 rename_i a;split at h
 .rename_i k hs;obtain⟨d,hd⟩:=pZ (P:=P) (t:=t) (by rw[hs];simp);obtain⟨n,hn,hk⟩:=h;exact⟨_,_,hk,by simpa using hn,λw' hw=>run_load hd (by rw[hs];simp) (hw _ (.head _))⟩
 .rename_i hs;obtain⟨d,hd⟩:=pZ (P:=P) (t:=t) (by rw[hs];simp);obtain⟨n,hn,hk⟩:=h;exact⟨_,_,hk,by simpa using hn,λw' hw=>run_load hd (by rw[hs];simp) (hw _ (.head _))⟩
 .rename_i hs;obtain⟨d,hd⟩:=pZ (P:=P) (t:=t) (by rw[hs];simp);obtain⟨n,hn,hk⟩:=h;exact⟨_,_,hk,by simpa using hn,λw' hw=>run_load hd (by rw[hs];simp) (hw _ (.head _))⟩
 .rename_i hs;obtain⟨d,hd⟩:=pZ (P:=P) (t:=t) (by rw[hs];simp);obtain⟨p,l,c,hn,hk⟩:=h;exact⟨_,_,hk,by simpa using hn,λw' hw=>run_load hd (by rw[hs];simp) (hw _ (.head _))⟩
 .rename_i hs;obtain⟨d,hd⟩:=pZ (P:=P) (t:=t) (by rw[hs];simp);obtain⟨n,hn,hk⟩:=h;exact⟨_,_,hk,by simpa using hn,λw' hw=>run_load hd (by rw[hs];simp) (hw _ (.head _))⟩
 .rename_i hs;obtain⟨d,hd⟩:=pZ (P:=P) (t:=t) (by rw[hs];simp);obtain⟨n,hn,hk⟩:=h;exact⟨_,_,hk,by simpa using hn,λw' hw=>run_load hd (by rw[hs];simp) (hw _ (.head _))⟩
 .rename_i hs;split at h<;>try exact h.elim
  rename_i i hi;obtain⟨vs,hn,hv,hk⟩:=h;exact⟨_,_,hk,ES.2 (by rw[hn];exact hv),λw' hw=>Vf hs hi hn (by rw[<-hn];exact ES.1 hw)⟩
 .rename_i hs;split at h<;>try exact h.elim
  rename_i d hd;obtain⟨n,hn,hk⟩:=h;exact⟨_,_,hk,by simpa using hn,λw' hw=>run_load hd (by rw[hs];simp) (hw _ (.head _))⟩
 .exact h.elim
 .rename_i hs;obtain⟨d,hd⟩:=pZ (P:=P) (t:=t) (by rw[hs];simp);obtain⟨f,b,c,hn,hk⟩:=h;exact⟨_,_,hk,by simpa using hn,λw' hw=>run_load hd (by rw[hs];simp) (hw _ (.head _))⟩
def FW (r:Option Nat):Fence:={fn:=λ_=>True,depth:=none,alive:=false,round:=r}
theorem Vg (r:Option Nat) (n:Nat):(FW r).room n:=λd h=>by simp[FW] at h
theorem Iq {r:Option Nat} {n:Nat} {P:Program} {f:FuncId} {args:Array Value} {w:World} {R:Ending->World->Prop}:CallsIn (FW r) n P f args w R↔Calls P f args w R:=callsIn_wide (n:=n)
theorem ET {n:Nat} {P:Program} {c:Code} {Q:Exit->Act->World->Prop} {a:Act} {w:World}:c.wpIn (FW none) n P Q a w↔c.wp P Q a w:=wpIn_wide
theorem Vh {r r':Option Nat} {n n':Nat} {P:Program} {l:Nat} {f:FuncId} {tmps:Array Value} {assign body:Code} {w:World} {R:Ending->World->Prop} (h:RoundIn (FW r) n P l f tmps assign body w R):RoundIn (FW r') n' P l f tmps assign body w R:=⟨trivial,λc cs _=>h.2 c cs (Vg _ _)⟩
def Ir (P:Program) (l:Nat) (args:Array Value) (w:World) (R:Value->World->Prop):Prop:=
 ∃fn tmps assign body,(Instr.yield l args).run P w=.ok (.round l fn tmps assign body) w/\
  RoundIn (FW none) 0 P l fn tmps assign body w λe w'=>∃v,e=.returned v/\R v w'
def EU (P:Program) (f:FuncId) (args:Array Value) (w:World) (R:Value->World->Prop):Prop:=∃v w',(callFunc f args).run P w=.ok (.value v) w'/\R v w'
def gi (P:Program) (f:Fn) (first captured args:Array Value) (w:World) (R:Value->World->Prop):Prop:=
 match f with
 |.func f=>match P.funcs[f]? with
   |some fn=>match fn.body with
    |some _=>call P f (first++args++captured) w R
    |none=>EU P f (first++args++captured) w R
   |none=>False
 |.yield l=>Ir P l (first++args) w R
 |_=>False
theorem Vi {P:Program} {l:Nat} {args:Array Value} {w:World} {R R':Value->World->Prop} (h:Ir P l args w R) (hr:∀v w',R v w'->R' v w'):Ir P l args w R':=by obtain⟨fn,tmps,assign,body,h1,h2⟩:=h;exact⟨fn,tmps,assign,body,h1,h2.mono λe w' ⟨v,he,hv⟩=>⟨v,he,hr _ _ hv⟩⟩
theorem nH {P:Program} {f:Fn} {a b args:Array Value} {w:World} {R R':Value->World->Prop} (h:gi P f a b args w R) (hr:∀v w',R v w'->R' v w'):gi P f a b args w R':=by
 unfold gi at*;split at h
 .split at h<;>try exact h.elim
  split at h
  .exact Calls.mono h λe w' ⟨v,he,hv⟩=>⟨v,he,hr _ _ hv⟩
  .obtain⟨v,w',h1,h2⟩:=h;exact⟨v,w',h1,hr _ _ h2⟩
 .exact Vi h hr
 .exact h.elim
theorem Vj {α β:Type} {r:Result α} {f:α->World->Result β} {x:β} {w':World} (h:r.andThen f=.ok x w'):∃a w1,r=.ok a w1/\f a w1=.ok x w':=by
 cases r with
 |ok a w1=>exact⟨a,w1,rfl,h⟩
 |halt e w1=>cases h
theorem Vk {P:Program} {o:Oper} {ρ:Operand->Value} {c:Call} {x:Next} {w w':World} (ho:o.op=.defer c) (h:(execOp ρ o).run P w=.ok x w'):∃d,x=.defer d:=by simp only[execOp,ho,Sem.run_bind] at h;obtain⟨d,w1,_,h2⟩:=Vj h;simp only[Sem.run_pure,Result.ok.injEq] at h2;exact⟨d,h2.1.symm⟩
theorem g7 {P:Program} {r:Option Nat} {n:Nat} {o:Oper} {a:Act} {w w':World} {x:Next} {next:Act->World->Prop} {Q:Exit->Act->World->Prop} (hr:(execOp a.eval o).run P w=.ok x w') (hd:∀d,x≠.defer d) (h:o.uponIn (FW r) n P a next Q (.ok x w')):o.wpIn (FW r) n P a w next Q:=by
 refine⟨λ_ _=>trivial,?_⟩;have fm:∀c,o.op≠.defer c:=λc ho=>by obtain⟨d,e⟩:=Vk ho hr;exact hd d e
 have e:Oper.semAt (FW r).round a.eval o=execOp a.eval o:=Oper.semAt_eq _ _ _ fm;rw[e,hr];exact h
def Nr (K:Value->World->Prop):Next->World->Prop
 |.value v,w=>K v w
 |.skip,w=>K undef w
 |_,_=>False
def vz (P:Program) (o:Oper) (ρ:Operand->Value) (w:World) (K:Value->World->Prop):Prop:=
 match o.op with
 |.store t a x=>match ρ a,P.info? t with
  |.pointer (some ad),some i=>match ρ x with
   |.agg vs=>aS P ad i.size vs w λw'=>K undef w'
   |.tuple _=>False
   |v=>if i.size=1 then st ad v w λw'=>K undef w' else False
  |_,_=>False
 |.alloc t=>match P.info? t with
  |some i=>match i.zero with|some z=>new z.cells t w λb w'=>K (al b) w'|none=>False
  |none=>False
 |.box t x=>new (ρ x).cells t w λb w'=>K (al b) w'
 |.buildSlice t len parts=>match P.underlying t with
  |some (.slice e)=>match P.info? e with
   |some i=>match i.zero with
    |some z=>if len*i.size>2^24 then False else
     match parts.toList with
     |[(0,x)]=>match ρ x with
      |.agg vs=>if len=1 then vs.size=i.size/\new vs e w λb w'=>K (.slice (aU b) 1 1) w' else False
      |_=>match Instr.fill (λj=>some (j*i.size,i.size)) ((Array.range (len*i.size)).map (z.cells[·%z.cells.size]!)) (parts.map λ(j,x)=>(j,ρ x)).toList with
       |some cs=>new cs e w λb w'=>K (.slice (aU b) len len) w'
       |none=>False
     |_=>match Instr.fill (λj=>some (j*i.size,i.size)) ((Array.range (len*i.size)).map (z.cells[·%z.cells.size]!)) (parts.map λ(j,x)=>(j,ρ x)).toList with
      |some cs=>new cs e w λb w'=>K (.slice (aU b) len len) w'
      |none=>False
    |none=>False
   |none=>False
  |_=>False
 |.call {callee:=.builtin .append,args:=args,argTypes:=ts}=>bR P (Builtin.append_ ts o.type (args.map ρ)) w λp l c w'=>K (.slice p l c) w'
 |.convert s t x=>match P.underlying t with
  |some (.slice _)=>bR P (convert s t (ρ x)) w λp l c w'=>K (.slice p l c) w'
  |some .string=>EM P (convert s t (ρ x)) w λt w'=>K (.string t) w'
  |_=>False
 |.makeSlice t l c=>bR P (Instr.makeSlice t (ρ l) (ρ c)) w λp l c w'=>K (.slice p l c) w'
 |.call {callee:=.value g,args:=args,argTypes:=_}=>match ρ g with
  |.func f first captured=>gi P f first captured (args.map ρ) w λv w'=>z6 P o.type v λv=>K v w'
  |_=>False
 |.call {callee:=.builtin .delete,args:=args,argTypes:=ts}=>match args.toList with
  |[m,k]=>match ρ m with|.map r=>zZ P ts o.type r (ρ k) w λw'=>K (.tuple #[]) w'|_=>False
  |_=>False
 |.call {callee:=.builtin .clear,args:=args,argTypes:=ts}=>match args.toList with
  |[m]=>match ρ m with|.slice p l c=>EN P ts o.type p l c w λw'=>K (.tuple #[]) w'|_=>False
  |_=>False
 |.call {callee:=.builtin .len,args:=args,argTypes:=ts}=>match args.toList with
  |[m]=>match ρ m with|.map r=>US P ts o.type r w λn=>K (aa n) w|_=>False
  |_=>False
 |.makeMap t r=>match r with|none=>uc w λb w'=>K (.map (some b)) w'|some _=>False
 |.lookup t x i ok=>match ρ x with|.map r=>nG P t r (ρ i) ok w λv=>z6 P o.type v λv=>K v w|_=>False
 |.mapUpdate t m k v=>match ρ m with|.map r=>qU P t r (ρ k) (ρ v) w λw'=>K undef w'|_=>False
 |.insert t m k v=>match ρ m with|.map r=>qU P t r (ρ k) (ρ v) w λw'=>K undef w'|_=>False
 |.defer _=>False
 |.panic _=>False
 |.call {callee:=.builtin .copy,args:=args,argTypes:=ts}=>H9 .i64 P (Builtin.copy_ ts o.type (args.map ρ)) w λn w'=>K (aa n) w'
 |.call {callee:=.builtin .cap,args:=args,argTypes:=ts}=>match args.toList with
  |[m]=>match(ts[0]?).bind P.underlying,ρ m with|some (.slice _),.slice p l c=>K (aa (c:Int)) w|_,_=>False
  |_=>False
 |.range t x=>Ia P (Instr.range t (ρ x)) w λa w'=>K (.pointer (some a)) w'
 |.next it s=>Ib P (ρ it) s o.type w (λw'=>K (.tuple #[.bool false]) w') λk v w'=>K (.tuple #[.bool true,k,v]) w'
 |.entry it=>Ic P (ρ it) w λk v=>K (.tuple #[k,v]) w
 |.typeAssert x xT t ok=>Ie P (Instr.typeAssert (ρ x) xT t ok) w λv=>z6 P o.type v λv=>K v w
 |.sliceToArrayPointer t x=>zY P (Instr.arrayAt t (ρ x)) w λa=>K (.pointer (some a)) w
 |_=>runs P (execOp ρ o) w (Nr λv w'=>z6 P o.type v λv=>K v w')
def Plain (P:Program):Prop:=∀(f:Nat) (fn:Func),P.funcs[f]?=some fn->(fn.name== "runtime.NumGoroutine")=false
theorem Vl {size:Nat} {z vs:Array Value} (hz:z.size=size) (hv:vs.size=size): Instr.fill (λj=>some (j*size,size)) z [(0,.agg vs)]=some vs:=by
 have key:∀(l:List Value) (k:Nat) (acc:Array Value),k+l.length<=acc.size->(l.zipIdx k).foldl (λcs (c,j)=>cs.setIfInBounds (0*size+j) c) acc=(acc.toList.take k++l++acc.toList.drop (k+l.length)).toArray:=by
  intro l;induction l with
  |nil=>intro k acc _;simp
  |cons x l ih=>
   intro k acc hk;simp only[iB] at hk;simp only[List.zipIdx_cons,o0];rw[ih (k+1) _ (by simp;omega)];apply cT;simp only[Nat.zero_mul,dc,rZ,iy];apply qQ;intro i;simp only[List.getElem?_append,vp,qP,fB,List.length_set,pW,jR,iB,List.getElem?_cons,sc];have h1:min (k+1) acc.size=k+1:=by omega
   have h2:min k acc.size=k:=by omega
   simp only[h1,h2];rcases Nat.lt_trichotomy i k with h|h|h
   .simp[h,show i<k+1 by omega,show k≠i by omega]
   .subst h;simp[show i<acc.size by omega]
   .have e1:¬i<k+1:=by omega
    have e2:¬i<k:=by omega
    simp only[e1,e2,if_false];by_cases h3:i- (k+1)<l.length
    .simp[h3,show i- k<l.length+1 by omega,show i- k- 1=i- (k+1) by omega,show i- k≠0 by omega]
    .have e3:¬i- k<l.length+1:=by omega
     simp only[h3,e3,if_false];have e4:k+1+l.length+(i- (k+1)- l.length)=k+(l.length+1)+(i- k- (l.length+1)):=by omega
     rw[e4,if_neg (by omega)]
 have h:=key vs.toList 0 z (by simp[hz,hv]);simp only[Instr.fill];split
 .rename_i hc;simp[Value.cells,hv,hz] at hc
 congr 1;show vs.zipIdx.foldl (λcs (c,j)=>cs.setIfInBounds (0*size+j) c) z=vs;have ud:vs.zipIdx.foldl (λcs (c,j)=>cs.setIfInBounds (0*size+j) c) z=(vs.toList.zipIdx 0).foldl (λcs (c,j)=>cs.setIfInBounds (0*size+j) c) z:=by rw[<-Array.foldl_toList];simp
 rw[ud,h];apply cT;simp[hz,hv]
theorem Vm {P:Program} {t:TypeId} {i:TypeInfo} {a:Addr} {v u:Value} {w:World} (hi:P.info? t=some i) (h1:i.size=1) (hv:∀cs,v≠.agg cs) (z8:∀cs,v≠.tuple cs) (hc:w.cell? a=some u) (hf:w.frozen? a=false):(storeVar t a v).run P w=.ok () (w.setCell a v):=by
 have Vn:v.cells=#[v]:=by cases v<;>simp_all [Value.cells]
 have ha:a.add 0=a:=by simp[Addr.add]
 simp only[storeVar,Vn,Sem.run_bind,na hi,h1,Result.andThen_ok];cases v<;>simp_all [storeCells,store,Sem.run,Sem.run_bind]
theorem EV {P:Program} {r:Option Nat} {n:Nat} (hp:Plain P) {o:Oper} {a:Act} {w:World} {K:Value->World->Prop} {next:Act->World->Prop} {Q:Exit->Act->World->Prop} (h:vz P o a.eval w K) (hn:∀v w',K v w'->next (a.put o.dst v) w'):o.wpIn (FW r) n P a w next Q:=by
 unfold vz at h;split at h
 .rename_i t ad x ho;split at h<;>try exact h.elim
  rename_i Vo i z9 hi;split at h
  .rename_i vs hx;obtain⟨hs,w',hr,hk⟩:=h;have eK:(execOp a.eval o).run P w=.ok .skip w':=by simp[execOp,ho,Instr.storeAt,z9,hx,Instr.sureAddr,storeVar,Value.cells,na hi,hs,hr]
   refine g7 eK (λ_=>by simp) ?_;exact hn _ _ hk
  .exact h.elim
  .rename_i Nn No;split at h<;>try exact h.elim
   rename_i h1;obtain⟨⟨u,hu⟩,hf,hk⟩:=h;have eK:(execOp a.eval o).run P w=.ok .skip (w.setCell Vo (a.eval x)):=by simp[execOp,ho,Instr.storeAt,z9,Instr.sureAddr,Vm hi h1 (λcs e=>Nn cs e) (λcs e=>No cs e) hu hf]
   refine g7 eK (λ_=>by simp) ?_;exact hn _ _ hk
 .rename_i t ho;split at h<;>try exact h.elim
  rename_i i hi;split at h<;>try exact h.elim
  rename_i z hz;have eK:(execOp a.eval o).run P w=.ok (.value (al w.heap.size)) (w.alloc (.cells z.cells t)):=by simp[execOp,ho,Instr.alloc,zeroValue,typeInfo,hi,hz,newVar,newRow,newObj,Sem.run]
  refine g7 eK (λ_=>by simp) ?_;exact hn _ _ h
 .rename_i t x ho;have eK:(execOp a.eval o).run P w=.ok (.value (al w.heap.size)) (w.alloc (.cells (a.eval x).cells t)):=by simp[execOp,ho,Instr.box,newVar,newRow,newObj,Sem.run]
  refine g7 eK (λ_=>by simp) ?_;exact hn _ _ h
 .rename_i t len parts ho;split at h<;>try exact h.elim
  rename_i e hu;split at h<;>try exact h.elim
  rename_i i hi;split at h<;>try exact h.elim
  rename_i z hz;split at h
  .exact h.elim
  rename_i eB;have Is:∀cs,Instr.fill (λj=>some (j*i.size,i.size)) ((Array.range (len*i.size)).map (z.cells[·%z.cells.size]!)) (parts.map λ(j,x)=>(j,a.eval x)).toList=some cs->(execOp a.eval o).run P w=.ok (.value (.slice (aU w.heap.size) len len)) (w.alloc (.cells cs e)):=by
   intro cs dT;by_cases h0:len*i.size=0
   .have Vp:((Array.range (len*i.size)).map λj=>(#[]:Array Value)[j%(#[]:Array Value).size]!)=((Array.range (len*i.size)).map λj=>z.cells[j%z.cells.size]!):=by simp[h0]
    simp only[execOp,ho,Instr.buildSlice,Sem.run_bind,run_underlying hu,Result.andThen_ok,na hi,if_neg eB,if_pos h0,Sem.run_pure];rw[Vp,dT];simp[newRow,newObj,Sem.run]
   .have Vq:∀w,(zeroValue e).run P w=.ok z w:=λw=>by simp[zeroValue,typeInfo,hi,hz]
    simp only[execOp,ho,Instr.buildSlice,Sem.run_bind,run_underlying hu,Result.andThen_ok,na hi,if_neg eB,if_neg h0,Sem.run_pure,Vq];rw[dT];simp[newRow,newObj,Sem.run]
  split at h
  .rename_i x Vr;split at h
   .rename_i vs hx;split at h<;>try exact h.elim
    rename_i h1;subst h1;obtain⟨s5,hk⟩:=h;have s4:(parts.map λ(j,x)=>(j,a.eval x)).toList=[(0,.agg vs)]:=by simp[Vr,hx]
    refine g7 (Is vs (by rw[s4];exact Vl (by simp) s5)) (λ_=>by simp) ?_;exact hn _ _ hk
   .split at h<;>try exact h.elim
    rename_i cs dT;refine g7 (Is cs dT) (λ_=>by simp) ?_;exact hn _ _ h
  .split at h<;>try exact h.elim
   rename_i cs dT;refine g7 (Is cs dT) (λ_=>by simp) ?_;exact hn _ _ h
 .rename_i args ts ho;obtain⟨p,l,c,w',hr,hk⟩:=h;have eK:(execOp a.eval o).run P w=.ok (.value (.slice p l c)) w':=by simp[execOp,ho,resolve,invoke,builtin,hr]
  refine g7 eK (λ_=>by simp) ?_;exact hn _ _ hk
 .rename_i s t x ho;split at h<;>try exact h.elim
  .obtain⟨p,l,c,w',hr,hk⟩:=h;have eK:(execOp a.eval o).run P w=.ok (.value (.slice p l c)) w':=by simp[execOp,ho,hr]
   refine g7 eK (λ_=>by simp) ?_;exact hn _ _ hk
  .obtain⟨t,w',hr,hk⟩:=h;have eK:(execOp a.eval o).run P w=.ok (.value (.string t)) w':=by simp[execOp,ho,hr]
   refine g7 eK (λ_=>by simp) ?_;exact hn _ _ hk
 .rename_i t l c ho;obtain⟨p,l,c,w',hr,hk⟩:=h;have eK:(execOp a.eval o).run P w=.ok (.value (.slice p l c)) w':=by simp[execOp,ho,hr]
  refine g7 eK (λ_=>by simp) ?_;exact hn _ _ hk
 .rename_i g args ts ho;split at h<;>try exact h.elim
  rename_i f first captured hg
  have amd:∀(α:Type) (k:Program->Sem α) (w:World),(Sem.bind program k).run P w=(k P).run P w:=λ_ _ _=>rfl;unfold gi at h;split at h
  .rename_i f;split at h<;>try exact h.elim
   rename_i fn hf;split at h
   .rename_i c hb;have Vs:¬fn.name= "runtime.NumGoroutine" :=by simpa using hp f fn hf
    have eK:(execOp a.eval o).run P w=.ok (.enter f (first++args.map a.eval++captured)) w:=by simp only[execOp,ho,resolve,Deferred.ofValue,hg,invoke,callFunc,Sem.run_bind,Sem.run_pure,Result.andThen_ok];simp[program,Sem.run,hf,hb,Vs]
    refine g7 eK (λ_=>by simp) ⟨λhd=>by simp[FW] at hd,Iq.2 (Calls.mono h ?_)⟩;rintro e w' ⟨v,rfl,hk⟩;exact hn _ _ (yn (K:=λv=>K v w') hk)
   .obtain⟨v,w',hr,hk⟩:=h;have eK:(execOp a.eval o).run P w=.ok (.value v) w':=by simp only[execOp,ho,resolve,Deferred.ofValue,hg,invoke,Sem.run_bind,Sem.run_pure,Result.andThen_ok];exact hr
    exact g7 eK (λ_=>by simp) (hn _ _ (yn (K:=λv=>K v w') hk))
  .rename_i l;obtain⟨fn,tmps,assign,body,hy,hR⟩:=h;have eK:(execOp a.eval o).run P w=.ok (.round l fn tmps assign body) w:=by simp only[execOp,ho,resolve,Deferred.ofValue,hg,invoke,Sem.run_bind,Sem.run_pure,Result.andThen_ok];exact hy
   refine g7 eK (λ_=>by simp) ⟨λhd=>by simp[FW] at hd,Vh (hR.mono ?_)⟩;rintro e w' ⟨v,rfl,hk⟩;exact hn _ _ (yn (K:=λv=>K v w') hk)
  .exact h.elim
 .rename_i args ts ho;split at h<;>try exact h.elim
  rename_i m k yp;split at h<;>try exact h.elim
  rename_i r hm;obtain⟨w',hr,hk⟩:=h;have yq:args.map a.eval=#[.map r,a.eval k]:=by apply cT;simp[yp,hm]
  have eK:(execOp a.eval o).run P w=.ok (.value (.tuple #[])) w':=by simp[execOp,ho,resolve,invoke,builtin,yq,hr]
  exact g7 eK (λ_=>by simp) (hn _ _ hk)
 .rename_i args ts ho;split at h<;>try exact h.elim
  rename_i m yp;split at h<;>try exact h.elim
  rename_i p l c hm;obtain⟨w',hr,hk⟩:=h;have yq:args.map a.eval=#[.slice p l c]:=by apply cT;simp[yp,hm]
  have eK:(execOp a.eval o).run P w=.ok (.value (.tuple #[])) w':=by simp[execOp,ho,resolve,invoke,builtin,yq,hr]
  exact g7 eK (λ_=>by simp) (hn _ _ hk)
 .rename_i args ts ho;split at h<;>try exact h.elim
  rename_i m yp;split at h<;>try exact h.elim
  rename_i r hm;obtain⟨n,hr,hk⟩:=h;have yq:args.map a.eval=#[.map r]:=by apply cT;simp[yp,hm]
  have eK:(execOp a.eval o).run P w=.ok (.value (aa n)) w:=by simp[execOp,ho,resolve,invoke,builtin,yq,hr]
  exact g7 eK (λ_=>by simp) (hn _ _ hk)
 .rename_i t r ho;split at h<;>try exact h.elim
  rename_i Aa;have eK:(execOp a.eval o).run P w=.ok (.value (.map (some w.heap.size))) (w.alloc (.map #[] 0)):=by simp[execOp,ho,Instr.makeMap,newObj,Sem.run]
  exact g7 eK (λ_=>by simp) (hn _ _ h)
 .rename_i t x i ok ho;split at h<;>try exact h.elim
  rename_i r hx;obtain⟨v,hr,hk⟩:=h;have eK:(execOp a.eval o).run P w=.ok (.value v) w:=by simp[execOp,ho,hx,hr]
  exact g7 eK (λ_=>by simp) (hn _ _ (yn (K:=λv=>K v w) hk))
 .rename_i t m k v ho;split at h<;>try exact h.elim
  rename_i r hm;obtain⟨w',hr,hk⟩:=h;have eK:(execOp a.eval o).run P w=.ok .skip w':=by simp[execOp,ho,hm,hr]
  exact g7 eK (λ_=>by simp) (hn _ _ hk)
 .rename_i t m k v ho;split at h<;>try exact h.elim
  rename_i r hm;obtain⟨w',hr,hk⟩:=h;have eK:(execOp a.eval o).run P w=.ok .skip w':=by simp[execOp,ho,hm,hr]
  exact g7 eK (λ_=>by simp) (hn _ _ hk)
 .exact h.elim
 .exact h.elim
 .rename_i args ts ho;obtain⟨n,w',hr,hk⟩:=h;have eK:(execOp a.eval o).run P w=.ok (.value (aa n)) w':=by simp[execOp,ho,resolve,invoke,builtin,hr]
  exact g7 eK (λ_=>by simp) (hn _ _ hk)
 .rename_i args ts ho;split at h<;>try exact h.elim
  rename_i m yp;split at h<;>try exact h.elim
  rename_i e p l c ht hm;have yq:args.map a.eval=#[.slice p l c]:=by apply cT;simp[yp,hm]
  obtain⟨t,Ns,EW⟩:=bZ.1 ht;have eK:(execOp a.eval o).run P w=.ok (.value (aa (c:Int))) w:=by simp[execOp,ho,resolve,invoke,builtin,yq,Builtin.cap_,goInt,Ns,run_underlying EW]
  exact g7 eK (λ_=>by simp) (hn _ _ h)
 .rename_i t x ho;obtain⟨v,w',hr,hk⟩:=h;exact g7 (show(execOp a.eval o).run P w=.ok (.value _) w' by simp[execOp,ho,hr]) (λ_=>by simp) (hn _ _ hk)
 .rename_i it s ho;rcases h with⟨w',hr,hk⟩|⟨k,v,w',hr,hk⟩
  .exact g7 (show(execOp a.eval o).run P w=.ok (.value _) w' by simp[execOp,ho,hr]) (λ_=>by simp) (hn _ _ hk)
  .exact g7 (show(execOp a.eval o).run P w=.ok (.value _) w' by simp[execOp,ho,hr]) (λ_=>by simp) (hn _ _ hk)
 .rename_i it ho;obtain⟨k,v,hr,hk⟩:=h;exact g7 (show(execOp a.eval o).run P w=.ok (.value _) w by simp[execOp,ho,hr]) (λ_=>by simp) (hn _ _ hk)
 .rename_i x xT t ok ho;obtain⟨v,hr,hk⟩:=h;exact g7 (show(execOp a.eval o).run P w=.ok (.value v) w by simp[execOp,ho,hr]) (λ_=>by simp) (hn _ _ (yn (K:=λv=>K v w) hk))
 .rename_i t x ho;obtain⟨v,hr,hk⟩:=h;exact g7 (show(execOp a.eval o).run P w=.ok (.value _) w by simp[execOp,ho,hr]) (λ_=>by simp) (hn _ _ hk)
 .obtain⟨x,w',hr,hk⟩:=h;cases x<;>simp only[Nr] at hk
  .exact g7 hr (λ_=>by simp) (hn _ _ (yn (K:=λv=>K v w') hk))
  .exact g7 hr (λ_=>by simp) (hn _ _ (yn (K:=λv=>K v w') hk))
inductive Vt where
 |pure|load|alloc|yr
def wP (P:Program) (o:Oper):Vt:=
 match o.op with
 |.move _|.assign _|.pick ..|.nilCheck _|.binOp ..|.unOp ..|.indexAddr ..|.index ..|.slice ..|.field ..|.fieldAddr ..|.build ..|.extract ..|.makeFunc ..|.makeInterface ..=>.pure
 |.call {callee:=.builtin .len,args:=_,argTypes:=ts}=>match P.underlying (ts.getD 0 0) with|some (.map ..)=>.yr|some (.chan ..)=>.yr|_=>.pure
 |.call {callee:=.builtin .min,..}|.call {callee:=.builtin .max,..}=>.pure
 |.convert s t _=>match P.underlying s,P.underlying t with|some (.slice _),_=>.yr|_,some (.slice _)=>.yr|_,_=>.pure
 |.load ..=>.load
 |.alloc _|.box ..|.buildSlice ..=>.alloc
 |_=>.yr
def It (P:Program) (o:Oper) (ρ:Operand->Value) (w:World) (K:Value->World->List (Addr×Value)->Prop):Prop:=
 match wP P o with
 |.pure=>oC P o ρ λv=>K v w []
 |.load=>match o.op with|.load t a=>Cq P t (ρ a) w λv S=>K v w S|_=>False
 |.alloc=>vz P o ρ w λv w'=>K v w' []
 |.yr=>vz P o ρ w λv w'=>K v w' []
def EX (ops:Array Oper) (g:Option (Nat×Bool)) (a:Act) (T F:Act->Prop):Prop:=
 match g with
 |none=>T a
 |some (j,want)=>match(ops[j]?).bind (·.dst) with
  |some d=>match a.tmps[d]? with
   |some (.tuple _)=>F a
   |some (.bool b)=>br b (if want then T (a.put (some d) (.bool true)) else F (a.put (some d) (.bool true))) (if want then F (a.put (some d) (.bool false)) else T (a.put (some d) (.bool false)))
   |_=>False
  |none=>False
theorem ue {a:Act} {d:Nat} {v:Value} (h:a.tmps[d]?=some v):a.put (some d) v=a:=by
 cases a with
 |mk tmps defers=>
  simp only[Act.put,Act.mk.injEq,and_true];apply Array.ext_getElem?;intro i;simp only[B1];split
  .rename_i e;subst e;have aQ:d<tmps.size:=by have:=yi.1 h;exact this.1
   simp only at h;rw[if_pos aQ,h]
  .rfl
theorem Iu {ops:Array Oper} {o:Oper} {a:Act} {T F:Act->Prop} (h:EX ops o.guard a T F): (Region.wanted o (yielded ops a.tmps)=true/\T a)\/(Region.wanted o (yielded ops a.tmps)=false/\F a):=by
 unfold EX at h;split at h
 .rename_i hg;exact .inl ⟨by simp[Region.wanted,hg],h⟩
 .rename_i j want hg;split at h<;>try exact h.elim
  rename_i d hd;split at h<;>try exact h.elim
  .rename_i u hb;have hy:yielded ops a.tmps j=none:=by simp[yielded,hd,hb]
   exact .inr ⟨by simp[Region.wanted,hg,hy],h⟩
  rename_i b hb;have hy:yielded ops a.tmps j=some b:=by simp[yielded,hd,hb]
  rcases Ij h with⟨rfl,h⟩|⟨rfl,h⟩
  .rw[ue hb] at h;cases want
   .exact .inr ⟨by simp[Region.wanted,hg,hy],by simpa[br] using h⟩
   .exact .inl ⟨by simp[Region.wanted,hg,hy],by simpa[br] using h⟩
  .rw[ue hb] at h;cases want
   .exact .inl ⟨by simp[Region.wanted,hg,hy],by simpa[br] using h⟩
   .exact .inr ⟨by simp[Region.wanted,hg,hy],by simpa[br] using h⟩
structure kJ (L:List Tmp) (a b:Act):Prop where
 defers:b.defers=a.defers
 size:b.tmps.size=a.tmps.size
 tmps:∀t,t∉L->b.tmps[t]?=a.tmps[t]?
theorem kJ.refl (L:List Tmp) (a:Act):kJ L a a:=⟨rfl,rfl,λ_ _=>rfl⟩
theorem kJ.trans {L M N:List Tmp} {a b c:Act} (h:kJ L a b) (k:kJ M b c) (hL:∀t∈L,t∈N) (hM:∀t∈M,t∈N):kJ N a c:=⟨k.defers.trans h.defers,k.size.trans h.size,λt ht=>(k.tmps t λx=>ht (hM t x)).trans (h.tmps t λx=>ht (hL t x))⟩
theorem kJ.put {L:List Tmp} {a b:Act} (h:kJ L a b) {d:Option Tmp} (hd:∀t,d=some t->t∈L) (v:Value):kJ L a (b.put d v):=by
 cases d with
 |none=>exact h
 |some d=>refine⟨h.defers,by simpa[Act.put] using h.size,λt ht=> ?_⟩;have:t≠d:=λe=>ht (e▸hd d rfl);simp only[Act.put,B1];rw[if_neg (λe=>this e.symm)];exact h.tmps t ht
def vA (ops:Array Oper):List Tmp:=ops.toList.filterMap (·.dst)
theorem wQ {ops:Array Oper} {i:Nat} {o:Oper} (h:ops[i]?=some o):∀t,o.dst=some t->t∈vA ops:=by intro t ht;exact List.mem_filterMap.2 ⟨o,by simpa using Array.mem_of_getElem? h,ht⟩
def Cr (P:Program) (ops:Array Oper) (Q:Act->World->Prop):List Nat->Act->World->Prop
 |[],a,w=>Q a w
 |i::l,a,w=>match ops[i]? with
  |none=>False
  |some o=>EX ops o.guard a (λa=>It P o a.eval w λv w' _=>Cr P ops Q l (a.put o.dst v) w') (λa=>Cr P ops Q l (a.put o.dst undef) w)
theorem Nt {P:Program} {r:Option Nat} {n:Nat} {o:Oper} {a:Act} {w w':World} {v:Value} {next:Act->World->Prop} {Q:Exit->Act->World->Prop} (hr:(execOp a.eval o).run P w=.ok (.value v) w') (h:next (a.put o.dst v) w'):o.wpIn (FW r) n P a w next Q:=g7 hr (λ_=>by simp) h
theorem Nu {P:Program} {o:Oper} {ρ:Operand->Value} {t:TypeId} {x:Operand} {w:World} {v:Value} (ho:o.op=.load t x) (h:(Instr.loadAt t (ρ x)).run P w=.ok v w):(execOp ρ o).run P w=.ok (.value v) w:=by simp[execOp,ho,h]
theorem Vu {P:Program} {r:Option Nat} {n:Nat} (hp:Plain P) {o:Oper} {a:Act} {w:World} {K:Value->World->List (Addr×Value)->Prop} {next:Act->World->Prop} {Q:Exit->Act->World->Prop} (h:It P o a.eval w K) (hn:∀v w' S,K v w' S->next (a.put o.dst v) w'):o.wpIn (FW r) n P a w next Q:=by
 unfold It at h;split at h
 .obtain⟨v,hk,hr⟩:=Np h;exact Nt (hr w) (hn _ _ _ hk)
 .split at h<;>try exact h.elim
  rename_i t x ho;obtain⟨v,S,hk,hS,hr⟩:=Ip h;exact Nt (Nu ho (hr w hS)) (hn _ _ _ hk)
 .exact EV hp h λv w' hk=>hn _ _ _ hk
 .exact EV hp h λv w' hk=>hn _ _ _ hk
theorem Vv {P:Program} {r:Option Nat} {n:Nat} (hp:Plain P) {ops:Array Oper} {R:Act->World->Prop} {Q:Exit->Act->World->Prop} {a₀:Act} (hQ:∀a w,kJ (vA ops) a₀ a->R a w->Q .normal a w): ∀(l:List Nat) (a:Act) (w:World),kJ (vA ops) a₀ a->Cr P ops R l a w->wpOpsIn (FW r) n P ops Q l a w:=by
 intro l;induction l with
 |nil=>exact λa w hA h=>hQ a w hA h
 |cons i l ih=>
  intro a w hA h;simp only[Cr] at h;rw[wpOpsIn];split at h<;>try exact h.elim
  rename_i o ho;simp only[ho];rcases Iu (o:=o) h with⟨hw,h⟩|⟨hw,h⟩
  .simp only[hw,if_true];exact Vu hp h λv w' _ hk=>ih _ _ (hA.put (wQ ho) v) hk
  .simp only[hw,lS,if_false];exact⟨λ_ _=>trivial,ih _ _ (hA.put (wQ ho) _) h⟩
def qb:List (Addr×Value)->World->Prop->Prop
 |[],_,X=>X
 |(a,v)::S,w,X=>w.cell? a=some v/\qb S w X
def Cs (dj:List Nat):List (Nat×List (Addr×Value))->World->Prop->Prop
 |[],_,X=>X
 |(j,S)::dY,w,X=>if dj.contains j then Cs dj dY w X else qb S w (Cs dj dY w X)
theorem Vw {S:List (Addr×Value)} {w:World} {X:Prop} (h:qb S w X):(∀p∈S,w.cell? p.1=some p.2)/\X:=by
 induction S with
 |nil=>exact⟨by simp,h⟩
 |cons p S ih=>obtain⟨h1,h2⟩:=ih h.2;exact⟨λq hq=>by cases hq with|head=>exact h.1|tail _ hq=>exact h1 q hq,h2⟩
theorem Vx {dj:List Nat} {dY:List (Nat×List (Addr×Value))} {w:World} {X:Prop} (h:Cs dj dY w X): (∀p∈dY,p.1∉dj->∀q∈p.2,w.cell? q.1=some q.2)/\X:=by
 induction dY with
 |nil=>exact⟨by simp,h⟩
 |cons p dY ih=>
  obtain⟨j,S⟩:=p;unfold Cs at h;split at h
  .rename_i hc;obtain⟨h1,h2⟩:=ih h;refine⟨λq hq hn=> ?_,h2⟩;cases hq with
   |head=>exact absurd (by simpa using hc) hn
   |tail _ hq=>exact h1 q hq hn
  .obtain⟨h0,h3⟩:=Vw h;obtain⟨h1,h2⟩:=ih h3;refine⟨λq hq hn=> ?_,h2⟩;cases hq with
   |head=>exact h0
   |tail _ hq=>exact h1 q hq hn
inductive Ord where
 |nil
 |cons (i:Nat) (l:Ord)
 |fork (i:Nat) (l:Ord) (j:Nat) (l':Ord)
def ol:List Nat->Ord->Ord
 |[],t=>t
 |i::l,t=>.cons i (ol l t)
def Ab (P:Program) (ops:Array Oper) (dj:Nat->List Nat) (i:Nat) (dY:List (Nat×List (Addr×Value))) (a:Act) (w:World) (k:List (Nat×List (Addr×Value))->Act->World->Prop):Prop:=
 match ops[i]? with
  |none=>False
  |some o=>EX ops o.guard a
    (λa=>match wP P o with
     |.pure=>oC P o a.eval λv=>k dY (a.put o.dst v) w
     |.load=>match o.op with|.load t x=>Cq P t (a.eval x) w λv S=>k ((i,S)::dY) (a.put o.dst v) w|_=>False
     |.alloc=>vz P o a.eval w λv w'=>k dY (a.put o.dst v) w'
     |.yr=>vz P o a.eval w λv w'=>Cs (dj i) dY w' (k dY (a.put o.dst v) w'))
    (λa=>k dY (a.put o.dst undef) w)
def Ac (P:Program) (ops:Array Oper) (dj:Nat->List Nat) (Q:Act->World->Prop):Ord->List (Nat×List (Addr×Value))->Act->World->Prop
 |.nil,_,a,w=>Q a w
 |.cons i l,dY,a,w=>Ab P ops dj i dY a w λdY a w=>Ac P ops dj Q l dY a w
 |.fork i l j l',dY,a,w=>(Ab P ops dj i dY a w λdY a w=>Ac P ops dj Q l dY a w)/\(Ab P ops dj j dY a w λdY a w=>Ac P ops dj Q l' dY a w)
def Ad (dj:Nat->List Nat) (listed:Array Bool):Prop:=∀k,listed.getD k false=true->∀m∈dj k,listed.getD m false=true
def Ct (ops:Array Oper) (dj:Nat->List Nat):Bool:=
 (List.range ops.size).all λj=>(dj j).all λm=>match ops[j]? with
  |some o=>o.after.any λe=>Region.binds .any e&&(e.on==m||(dj e.on).contains m)
  |none=>true
theorem Nv {ops:Array Oper} {dj:Nat->List Nat} (cA:Ct ops dj=true) {listed:Array Bool} (hc:Ad dj listed) {j:Nat} (hj:j∈Region.ready .any ops listed): ∀m∈dj j,listed.getD m false=true:=by
 intro m hm;obtain⟨wR,oj,si,lU⟩:=mem_ready.1 hj;have aQ:j<ops.size:=(yi.1 si).1;have h1:=se.1 (se.1 cA j (vr.2 aQ)) m hm;simp only[si] at h1;obtain⟨e,he,hb⟩:=Array.any_eq_true'.1 h1;simp only[m6,Bool.or_eq_true,beq_iff_eq,List.contains_iff_mem] at hb;have hl:=lU e he hb.1;rcases hb.2 with rfl|qc
 .exact hl
 .exact hc _ hl m qc
theorem Nw {listed:Array Bool} {i j:Nat} (h:listed.getD j false=true):(listed.setIfInBounds i true).getD j false=true:=by
 simp only[yh,B1] at*;split
 .split
  .rfl
  .rename_i e aQ;subst e;rw[B7 (by omega)] at h;exact h
 .exact h
theorem Ad.set {ops:Array Oper} {dj:Nat->List Nat} (cA:Ct ops dj=true) {listed:Array Bool} (hc:Ad dj listed) {j:Nat} (hj:j∈Region.ready .any ops listed): Ad dj (listed.setIfInBounds j true):=by
 intro k hk m hm;by_cases e:k=j
 .subst e;exact Nw (Nv cA hc hj m hm)
 .refine Nw (hc k ?_ m hm);simp only[yh,B1] at*;rw[if_neg (λh=>e h.symm)] at hk;exact hk
abbrev uf (S:List (Addr×Value)) (w:World):Prop:=∀q∈S,w.cell? q.1=some q.2
def EY (ops:Array Oper):Bool:=ops.all λo=>match o.op with|.defer ..=>false|_=>true
theorem Vy {ops:Array Oper} (h:EY ops=true) (j:Nat) (o:Oper) (ho:ops[j]?=some o) (c:Call):o.op≠.defer c:=by intro e;have:=Array.all_eq_true_iff_forall_mem.1 h o (Array.mem_of_getElem? ho);simp[e] at this
theorem Nx {P:Program} {r:Option Nat} {n:Nat} {ops:Array Oper} {S:World->Prop} {Q:Exit->Act->World->Prop} {i:Nat} {o:Oper} {v:Value} {a:Act} (hi:ops[i]?=some o) (hy:YieldsIf P ops S o v a) {K:Act->World->Prop} {w:World} (hS:S w) (h:K (a.put o.dst v) w):wpOpIn (FW r) n P ops Q i K a w:=by
 unfold wpOpIn;simp only[hi];rcases hy with⟨hw,hv⟩|⟨hw,rfl⟩
 .simp only[hw,if_true];exact g7 (hv w hS) (λ_=>by simp) h
 .simp only[hw,lS,if_false];exact⟨λ_ _=>trivial,h⟩
theorem Vz {P:Program} {r:Option Nat} {n:Nat} {ops:Array Oper} {S:World->Prop} {Q:Exit->Act->World->Prop} {j:Nat} {oi oj:Oper} {v:Value} (hj:ops[j]?=some oj) (EZ:oi.apart ops oj=true) (VA:∀cs b,oi.op≠.select cs b) (VB:∀cs b,oj.op≠.select cs b) (Ny:∀c,oj.op≠.defer c) (hQ:∀c a w,Q (.panic c) (a.put oi.dst v) w->Q (.panic c) a w) {K:Act->World->Prop} {a:Act} {w:World} (hy:YieldsIf P ops S oi v a) (h:wpOpIn (FW r) n P ops Q j K (a.put oi.dst v) w): wpOpIn (FW r) n P ops Q j (λa' w'=>YieldsIf P ops S oi v a'/\K (a'.put oi.dst v) w') a w:=by
 obtain⟨h1,h2,h3⟩:=Oper.apart_spec EZ;have vB:∀(a:Act),YieldsIf P ops S oi v a->∀u,YieldsIf P ops S oi v (a.put oj.dst u):=λa hy u=>hy.of_same (execOp_put oi VA a oj.dst u h3) (wanted_put oi a oj.dst u h3);have VC:∀d,YieldsIf P ops S oi v {a with defers:=d::a.defers}:=λd=>hy.of_same rfl rfl;unfold wpOpIn at*;simp only[hj] at*;rw[wanted_put oj a oi.dst v h1] at h;split
 .rename_i hw;simp only[hw,if_true] at h;refine⟨λ_ _=>trivial,?_⟩;have h:=h.2;rw[Oper.semAt_eq _ _ _ Ny,execOp_put oj VB a oi.dst v h1] at h;rw[Oper.semAt_eq _ _ _ Ny];generalize (execOp a.eval oj).run P w=r at*;cases r with
  |ok x w'=>
   cases x<;>simp only[Oper.uponIn] at h ⊢;case value u=>exact⟨vB a hy u,by rw[<-Act.put_comm a v u h2];exact h⟩
   case skip=>exact⟨vB a hy _,by rw[<-Act.put_comm a v undef h2];exact h⟩
   case defer d=>refine⟨vB _ (VC d) _,?_⟩;rw[<-Act.put_comm _ v undef h2,<-Act.put_defers];exact h
   case enter f args=>
    refine⟨h.1,CallsIn.mono h.2 λe E0 he=> ?_⟩;cases e with
    |returned u=>exact⟨vB a hy u,by rw[<-Act.put_comm a v u h2];exact he⟩
    |panicked c=>exact hQ _ _ _ he
    |outgrown=>exact he
   case row row args=>exact⟨h.1,RowsIn.mono h.2 λu E0 he=>⟨vB a hy u,by rw[<-Act.put_comm a v u h2];exact he⟩⟩
   case round l f tmps assign body=>
    refine⟨h.1,RoundIn.mono h.2 λe E0 he=> ?_⟩;cases e with
    |returned u=>exact⟨vB a hy u,by rw[<-Act.put_comm a v u h2];exact he⟩
    |panicked c=>exact hQ _ _ _ he
    |outgrown=>exact he
  |halt x w'=>cases x<;>simp only[Oper.uponIn] at h ⊢;case panic u=>exact hQ _ _ _ h
 .rename_i hw;simp only[hw] at h;exact⟨λ_ _=>trivial,vB a hy _,by rw[<-Act.put_comm a v undef h2];exact h.2⟩
def s7 (r:Option Nat) (n:Nat) (P:Program) (ops:Array Oper) (dj:Nat->List Nat) (Q:Exit->Act->World->Prop) (dY:List (Nat×List (Addr×Value))):Nat->Array Bool->Act->World->Prop
 |0,listed,a,w=>Region.ready .any ops listed=[]/\Q .normal a w
 |fuel+1,listed,a,w=>
  (Region.ready .any ops listed=[]->Q .normal a w)/\
  ∀i∈Region.ready .any ops listed,wpOpIn (FW r) n P ops Q i (λa' w'=>(∀p∈dY,p.1∉dj i->uf p.2 w->uf p.2 w')/\s7 r n P ops dj Q dY fuel (listed.setIfInBounds i true) a' w') a w
theorem Nz {r:Option Nat} {n:Nat} {P:Program} {ops:Array Oper} {dj:Nat->List Nat} {Q:Exit->Act->World->Prop} {dY:List (Nat×List (Addr×Value))}: ∀(fuel:Nat) (listed:Array Bool) (a:Act) (w:World),s7 r n P ops dj Q dY fuel listed a w->wpAnyIn (FW r) n P .any ops Q fuel listed a w
 |0,_,_,_,h=>h
 |fuel+1,_,_,_,h=>⟨h.1,λi hi=>wpOpIn_mono (λa' w' h'=>Nz fuel _ a' w' h'.2) (h.2 i hi)⟩
theorem NA {r:Option Nat} {n:Nat} {P:Program} {ops:Array Oper} {dj:Nat->List Nat} {Q:Exit->Act->World->Prop} {p:Nat×List (Addr×Value)} {dY:List (Nat×List (Addr×Value))}: ∀(fuel:Nat) (listed:Array Bool) (a:Act) (w:World),s7 r n P ops dj Q (p::dY) fuel listed a w->s7 r n P ops dj Q dY fuel listed a w
 |0,_,_,_,h=>h
 |fuel+1,_,_,_,h=>⟨h.1,λi hi=>wpOpIn_mono (λa' w' h'=>⟨λq hq=>h'.1 q (.tail _ hq),NA fuel _ a' w' h'.2⟩) (h.2 i hi)⟩
theorem Iv {r:Option Nat} {n:Nat} {P:Program} {ops:Array Oper} {dj:Nat->List Nat} {Q:Exit->Act->World->Prop} {i:Nat} {dY:List (Nat×List (Addr×Value))}: ∀(fuel:Nat) (listed:Array Bool) (a:Act) (w:World),s7 r n P ops dj Q dY fuel listed a w->s7 r n P ops dj Q ((i,[])::dY) fuel listed a w
 |0,_,_,_,h=>h
 |fuel+1,_,_,_,h=>⟨h.1,λj hj=>wpOpIn_mono (λa' w' h'=>⟨λq hq hn hh=>by cases hq with|head=>exact λ_ h=>by cases h|tail _ hq=>exact h'.1 q hq hn hh,Iv fuel _ a' w' h'.2⟩) (h.2 j hj)⟩
theorem VD {r:Option Nat} {n:Nat} {P:Program} {ops:Array Oper} {dj:Nat->List Nat} {Q:Exit->Act->World->Prop} {dY:List (Nat×List (Addr×Value))} {S:List (Addr×Value)} (cA:Ct ops dj=true) {i:Nat} {oi:Oper} {v:Value} (hi:ops[i]?=some oi) (E7:∀(j:Nat) (o:Oper) cs b,ops[j]?=some o->o.op≠.select cs b) (Iw:EY ops=true) (hQ:∀c a w,¬Q (.panic c) a w): ∀(fuel:Nat) (listed:Array Bool) (a:Act) (w:World),Ad dj listed-> (∀j oj,ops[j]?=some oj->j≠i->listed.getD j true=false->(∀e∈oj.after,Region.binds .any e=true->e.on≠i)->oi.apart ops oj=true)-> i∈Region.ready .any ops listed->YieldsIf P ops (uf S) oi v a->uf S w-> s7 r n P ops dj Q ((i,S)::dY) fuel (listed.setIfInBounds i true) (a.put oi.dst v) w->s7 r n P ops dj Q dY (fuel+1) listed a w:=by
 intro fuel;induction fuel with
 |zero=>
  intro listed a w _ _ hr hy hS H;refine⟨λh=>(by rw[h] at hr;cases hr),λj hj=> ?_⟩;by_cases oD:j=i
  .subst oD;exact Nx hi hy hS ⟨λ_ _ _ h=>h,H⟩
  .have:=ready_mono hj oD;rw[H.1] at this;cases this
 |succ fuel ih=>
  intro listed a w hC NB hr hy hS H;refine⟨λh=>(by rw[h] at hr;cases hr),λj hj=> ?_⟩;by_cases oD:j=i
  .subst oD;exact Nx hi hy hS ⟨λ_ _ _ h=>h,NA _ _ _ _ H⟩
  .have h1:=H.2 j (ready_mono hj oD);obtain⟨NC,oj,si,lU⟩:=mem_ready.1 hj;have wR:=(mem_ready.1 hr).1;have VE:∀e∈oj.after,Region.binds .any e=true->e.on≠i:=λe he hb heq=>by
    have h1:=lU e he hb;rw[heq] at h1;rcases sY i listed.size with h'|h'
    .simp[h'] at wR h1;rw[wR] at h1;cases h1
    .simp[B7 h'] at h1
   have VF:i∉dj j:=λhm=>by
    have h1:=Nv cA hC hj i hm;rcases sY i listed.size with h'|h'
    .simp[h'] at wR h1;rw[wR] at h1;cases h1
    .simp[B7 h'] at h1
   have h2:=Vz si (NB j oj si oD NC VE) (λcs b=>E7 i oi cs b hi) (λcs b=>E7 j oj cs b si) (Vy Iw j oj si) (λc a w h=>(hQ _ _ _ h).elim) hy h1;have VG:∀k ok,ops[k]?=some ok->k≠i->(listed.setIfInBounds j true).getD k true=false->(∀e∈ok.after,Region.binds .any e=true->e.on≠i)->oi.apart ops ok=true:=λk ok hk VH wR ml=>by
    refine NB k ok hk VH ?_ ml;by_cases ND:j=k
    .subst ND;exact NC
    .rw[getD_set_ne true ND] at wR;exact wR
   refine wpOpIn_mono (λa' w' h3=>⟨λp hp=>h3.2.1 p (.tail _ hp),ih (listed.setIfInBounds j true) a' w' (hC.set cA hj) VG (ready_mono hr (Ne.symm oD)) h3.1 (h3.2.1 _ (.head _) VF hS) ?_⟩) h2;rw[Array.setIfInBounds_comm _ _ oD];exact h3.2.2
def turns (P:Program) (o:Oper):Bool:=match wP P o with|.pure|.load=>false|_=>true
def pj (P:Program) (ops:Array Oper):Ord->Nat->Array Bool->Bool
 |.nil,_,listed=>(Region.ready .any ops listed).isEmpty
 |.cons i l,fuel,listed=>match fuel,ops[i]? with
  |fuel+1,some o=>
   (match wP P o with
    |.pure|.load=>Region.free .any ops listed i&&(Region.ready .any ops listed).contains i
    |_=>Region.ready .any ops listed==[i])&&pj P ops l fuel (listed.setIfInBounds i true)
  |_,_=>false
 |.fork i l j l',fuel,listed=>match fuel,ops[i]?,ops[j]? with
  |fuel+1,some o,some o'=>turns P o&&turns P o'&&Region.ready .any ops listed==[i,j]&&pj P ops l fuel (listed.setIfInBounds i true)&&pj P ops l' fuel (listed.setIfInBounds j true)
  |_,_,_=>false
theorem VI {P:Program} {o:Oper} {ρ:Operand->Value} {w:World} {K:Value->World->Prop} (hk:wP P o=.alloc) (h:vz P o ρ w K): vz P o ρ w λv w'=>K v w'/\∃ob,w'=w.alloc ob:=by
 unfold wP at hk;unfold vz at h ⊢;split at hk<;>try cases hk
 all_goals first
  |(exfalso;split at hk<;>cases hk;done)
  |skip
 all_goals
  rename_i heq;simp only[heq] at h ⊢
 .split at h<;>try exact h.elim
  rename_i hi;try simp only[hi]
  split at h<;>try exact h.elim
  rename_i hz;try simp only[hz]
  exact⟨h,_,rfl⟩
 .exact⟨h,_,rfl⟩
 .split at h<;>try exact h.elim
  rename_i hu;try simp only[hu]
  split at h<;>try exact h.elim
  rename_i hi;try simp only[hi]
  split at h<;>try exact h.elim
  rename_i hz;try simp only[hz]
  split at h<;>try exact h.elim
  rename_i hl;try rw[if_neg hl]
  split at h
  .rename_i hp;split at h
   .rename_i hx;split at h<;>try exact h.elim
    rename_i h1;try simp only[hp,hx,h1,if_true]
    exact⟨h.1,h.2,_,rfl⟩
   .split at h<;>try exact h.elim
    exact⟨h,_,rfl⟩
  .split at h<;>try exact h.elim
   exact⟨h,_,rfl⟩
theorem VJ {w:World} {ob:Obj} {S:List (Addr×Value)} (h:uf S w):uf S (w.alloc ob):=by intro q hq;have h1:=h q hq;exact(World.cell?_of_block (w:=w) (Below.heap_alloc w ob _ (World.block_lt_of_cell? w q.1 h1))).trans h1
theorem Ix {r:Option Nat} {n:Nat} {P:Program} (hp:Plain P) {ops:Array Oper} {dj:Nat->List Nat} {Q:Exit->Act->World->Prop} {i:Nat} {o:Oper} {dY:List (Nat×List (Addr×Value))} {a₀ a:Act} {w:World} {k:List (Nat×List (Addr×Value))->Act->World->Prop} {K:Act->World->Prop} (ho:ops[i]?=some o) (ht:turns P o=true) (hA:kJ (vA ops) a₀ a) (h:Ab P ops dj i dY a w k) (hk:∀a' w',kJ (vA ops) a₀ a'->k dY a' w'->K a' w'): wpOpIn (FW r) n P ops Q i (λa' w'=>(∀p∈dY,p.1∉dj i->uf p.2 w->uf p.2 w')/\K a' w') a w:=by
 simp only[Ab,ho] at h;unfold turns at ht;rcases Iu (o:=o) h with⟨hw,h⟩|⟨hw,h⟩
 .split at h
  .rename_i qd;rw[qd] at ht;cases ht
  .rename_i qd;rw[qd] at ht;cases ht
  .rename_i qd;unfold wpOpIn;simp only[ho,hw,if_true];refine(EV hp (VI qd h) ?_);rintro v w' ⟨yu,ob,rfl⟩;exact⟨λp _ _ hh=>VJ hh,hk _ _ (hA.put (wQ ho) _) yu⟩
  .unfold wpOpIn;simp only[ho,hw,if_true];refine(EV hp h ?_);intro v w' yu;obtain⟨h1,h2⟩:=Vx yu;exact⟨λp hp hn _=>h1 p hp hn,hk _ _ (hA.put (wQ ho) _) h2⟩
 .unfold wpOpIn;simp only[ho,hw,lS,if_false];exact⟨λ_ _=>trivial,λ_ _ _ h=>h,hk _ _ (hA.put (wQ ho) _) h⟩
theorem VK {r:Option Nat} {n:Nat} {P:Program} (hp:Plain P) {ops:Array Oper} {dj:Nat->List Nat} {R:Act->World->Prop} {Q:Exit->Act->World->Prop} (cA:Ct ops dj=true) (E7:Region.noSelect ops=true) (Iw:EY ops=true) (hQ:∀c a w,¬Q (.panic c) a w) {a₀:Act} (hR:∀a w,kJ (vA ops) a₀ a->R a w->Q .normal a w): ∀(l:Ord) (fuel:Nat) (listed:Array Bool) (dY:List (Nat×List (Addr×Value))) (a:Act) (w:World),kJ (vA ops) a₀ a->Ad dj listed->pj P ops l fuel listed=true-> Ac P ops dj R l dY a w->s7 r n P ops dj Q dY fuel listed a w:=by
 intro l;induction l with
 |nil=>
  intro fuel listed dY a w hA hC pk h;have hr:Region.ready .any ops listed=[]:=by simpa[pj] using pk
  cases fuel with
  |zero=>exact⟨hr,hR _ _ hA h⟩
  |succ f=>exact⟨λ_=>hR _ _ hA h,by rw[hr];simp⟩
 |fork i l j l' ih ER=>
  intro fuel listed dY a w hA hC pk h;unfold pj at pk;split at pk<;>try cases pk
  rename_i f o o' ho sj;simp only[m6,beq_iff_eq] at pk;obtain⟨⟨⟨⟨t1,t2⟩,hr⟩,c1⟩,c2⟩:=pk;refine⟨λh0=>(by rw[hr] at h0;cases h0),?_⟩;intro q hq;rw[hr] at hq;simp only[pa,Cf,or_false] at hq;rcases hq with rfl|rfl
  .exact Ix hp ho t1 hA h.1 λa' w' yv hk=>ih f _ _ _ _ yv (hC.set cA (by rw[hr];simp)) c1 hk
  .exact Ix hp sj t2 hA h.2 λa' w' yv hk=>ER f _ _ _ _ yv (hC.set cA (by rw[hr];simp)) c2 hk
 |cons i l ih=>
  intro fuel listed dY a w hA hC pk h;unfold pj at pk;split at pk<;>try cases pk
  rename_i f o ho;simp only[m6] at pk;obtain⟨nb,Ae⟩:=pk;have h':=h;simp only[Ac,Ab,ho] at h;have first:∀(S:List (Addr×Value)) (v:Value),Region.free .any ops listed i=true->(Region.ready .any ops listed).contains i=true->YieldsIf P ops (uf S) o v a->uf S w->s7 r n P ops dj Q ((i,S)::dY) f (listed.setIfInBounds i true) (a.put o.dst v) w->s7 r n P ops dj Q dY (f+1) listed a w:=by intro S v hf hr hy hS hH;exact VD cA ho (Region.noSelect_spec E7) Iw hQ f listed a w hC (Region.free_spec ho hf) (by simpa using hr) hy hS hH
  have dV:i∈Region.ready .any ops listed:=by
   split at nb
   .simp only[m6] at nb;simpa using nb.2
   .simp only[m6] at nb;simpa using nb.2
   .have:Region.ready .any ops listed=[i]:=by simpa using nb
    rw[this];simp
  have E8:=hC.set cA dV;by_cases ht:turns P o=true
  .have hr:Region.ready .any ops listed=[i]:=by
    unfold turns at ht;split at nb
    .rename_i e;rw[e] at ht;cases ht
    .rename_i e;rw[e] at ht;cases ht
    .simpa using nb
   refine⟨λh0=>(by rw[hr] at h0;cases h0),?_⟩;rw[hr];intro j hj;rw[mL] at hj;subst hj;exact Ix hp ho ht hA h' λa' w' yv hk=>ih f _ _ _ _ yv E8 Ae hk
  rcases Iu (o:=o) h with⟨hw,h⟩|⟨hw,h⟩
  .split at h
   .rename_i hk;rw[hk] at nb;simp only[m6] at nb;obtain⟨v,yu,hr⟩:=Np h;refine first [] v nb.1 nb.2 (.inl ⟨hw,λw' _=>hr w'⟩) (by simp) ?_
    exact Iv _ _ _ _ (ih f _ _ _ _ (hA.put (wQ ho) _) E8 Ae yu)
   .rename_i hk;rw[hk] at nb;simp only[m6] at nb;split at h<;>try exact h.elim
    rename_i t x Cu;obtain⟨v,S,yu,hS,hr⟩:=Ip h;refine first S v nb.1 nb.2 (.inl ⟨hw,λw' lV=>Nu Cu (hr w' lV)⟩) hS ?_
    exact ih f _ _ _ _ (hA.put (wQ ho) _) E8 Ae yu
   .rename_i hk;exact absurd (by unfold turns;rw[hk]) ht
   .rename_i hk;exact absurd (by unfold turns;rw[hk]) ht
  .have hh:=ih f _ _ _ _ (hA.put (wQ ho) _) E8 Ae h;have hk:wP P o=.pure\/wP P o=.load:=by
    unfold turns at ht;split at ht
    .rename_i e;exact .inl e
    .rename_i e;exact .inr e
    .exact absurd rfl ht
   have mn:Region.free .any ops listed i=true/\(Region.ready .any ops listed).contains i=true:=by rcases hk with hk|hk<;>rw[hk] at nb<;>simpa only[m6] using nb
   exact first [] undef mn.1 mn.2 (.inr ⟨hw,rfl⟩) (by simp) (Iv _ _ _ _ hh)
def Cv (P:Program) (ops:Array Oper) (draw:Bool) (dj:List (List Nat)) (l:Ord) (Q:Act->World->Prop) (a:Act) (w:World):Prop:=
 match draw with
 |false=>Cr P ops Q (List.range ops.size) a w
 |true=>match Ct ops (λj=>dj.getD j [])&&Region.noSelect ops&&EY ops&&pj P ops l ops.size (Array.replicate ops.size false) with
  |true=>Ac P ops (λj=>dj.getD j []) Q l [] a w.drew
  |false=>False
theorem VL {r:Option Nat} {n:Nat} {P:Program} (hp:Plain P) (hm:P.follows .mixedOrders=true) {id:Nat} {ops:Array Oper} {draw:Bool} {dj:List (List Nat)} {l:Ord} {R:Act->World->Prop} {a:Act} {w:World} (h:Cv P ops draw dj l R a w):(Code.region id ops draw).wpIn (FW r) n P (λe a' w'=>e=.normal/\kJ (vA ops) a a'/\R a' w') a w:=by
 cases draw with
 |false=>exact wpIn_region (Vv hp (a₀:=a) (λa' w' hA hr=>⟨rfl,hA,hr⟩) _ a w (kJ.refl _ _) h)
 |true=>
  simp only[Cv] at h;split at h<;>try exact h.elim
  rename_i hc;simp only[m6] at hc;refine wpIn_region_any hm (Nz _ _ _ _ (VK hp hc.1.1.1 hc.1.1.2 hc.1.2 (λc a w h=>(by cases h.1)) (a₀:=a) (λa' w' hA hr=>⟨rfl,hA,hr⟩) l ops.size _ [] a w.drew (kJ.refl _ _) ?_ hc.2 h));intro k hk;simp only[yh,Array.getElem?_replicate] at hk;split at hk<;>simp at hk
abbrev dL:=Nat->Option Obj
structure HP where
 holds:dL->Prop
def dL.sub (h k:dL):Prop:=∀b o,h b=some o->k b=some o
def dL.apart (h k:dL):Prop:=∀b,h b=none\/k b=none
def HP.pn (A B:HP):HP:=⟨λh=>∃h1 h2:dL,h1.apart h2/\h1.sub h/\h2.sub h/\A.holds h1/\B.holds h2⟩
instance:Mul HP:=⟨HP.pn⟩
def cW:HP:=⟨λ_=>True⟩
def bM (p:Prop):HP:=⟨λ_=>p⟩
def ob (b:Nat) (o:Obj):HP:=⟨λh=>h b=some o⟩
abbrev ab (b:Nat) (cs:Array Value) (t:TypeId):HP:=ob b (.cells cs t (0,0))
def ex {α:Type} (f:α->HP):HP:=⟨λh=>∃x,(f x).holds h⟩
def mP (w:World):HP:=⟨λh=>∀b o,w.heap[b]?=some o->h b=some o⟩
def own (t:TypeId) (sz:Nat) (p:Option Addr) (l c:Nat) (xs:List Value):HP:=
 ⟨λh=>xs.length=l*sz/\((p=none/\l=0/\c=0)\/
  ∃g cur,p=some (aD g)/\h g=some (.cells cur t (0,0))/\l<=c/\c<=maxLen/\cur.size=c*sz/\cur.toList.take (l*sz)=xs)⟩
theorem dL.Af (h:dL):h.sub h:=λ_ _ e=>e
theorem dL.E9 {a b c:dL} (h:a.sub b) (k:b.sub c):a.sub c:=λx o e=>k x o (h x o e)
theorem dL.VM {a b:dL} (h:a.apart b):b.apart a:=λx=>(h x).symm
theorem dL.Fa {a b a' b':dL} (h:a.apart b) (ha:a'.sub a) (hb:b'.sub b):a'.apart b':=λx=>by
 rcases h x with h|h
 .left;cases e:a' x with
  |none=>rfl
  |some o=>rw[ha x o e] at h;cases h
 .right;cases e:b' x with
  |none=>rfl
  |some o=>rw[hb x o e] at h;cases h
def dL.sk (a b:dL):dL:=λx=>(a x).or (b x)
theorem dL.Iy (a b:dL):a.sub (a.sk b):=λx o e=>by simp[dL.sk,e]
theorem dL.Iz {a b:dL} (h:a.apart b):b.sub (a.sk b):=λx o e=>by
 rcases h x with h|h
 .simp[dL.sk,h,e]
 .rw[h] at e;cases e
theorem dL.NF {a b c:dL} (ha:a.sub c) (hb:b.sub c):(a.sk b).sub c:=λx o e=>by
 simp only[dL.sk] at e;cases ea:a x with
 |some o'=>rw[ea] at e;simp at e;subst e;exact ha x _ ea
 |none=>rw[ea] at e;simp at e;exact hb x _ e
theorem Cw (A B:HP):A*B=B*A:=by have:∀A B:HP,∀h,(HP.pn A B).holds h->(HP.pn B A).holds h:=λA B h ⟨h1,h2,ha,s1,s2,x,y⟩=>⟨h2,h1,dL.VM ha,s2,s1,y,x⟩;show HP.pn A B=HP.pn B A;have e:(HP.pn A B).holds=(HP.pn B A).holds:=funext λh=>propext ⟨this A B h,this B A h⟩;exact congrArg HP.mk e
theorem vC (A B C:HP):A*B*C=A*(B*C):=by
 show HP.pn (HP.pn A B) C=HP.pn A (HP.pn B C);have e:(HP.pn (HP.pn A B) C).holds=(HP.pn A (HP.pn B C)).holds:=funext λh=>propext (by
  constructor
  .rintro⟨bA,h3,ha,NG,s3,⟨h1,h2,yw,t1,t2,x,y⟩,z⟩;have NH:h2.apart h3:=dL.Fa ha t2 (dL.Af _);have yx:h1.apart h3:=dL.Fa ha t1 (dL.Af _);refine⟨h1,h2.sk h3,?_,dL.E9 t1 NG,dL.NF (dL.E9 t2 NG) s3,x,h2,h3,NH,dL.Iy _ _,dL.Iz NH,y,z⟩;intro b;rcases yw b with h|h
   .exact .inl h
   .rcases yx b with h'|h'
    .exact .inl h'
    .exact .inr (by simp[dL.sk,h,h'])
  .rintro⟨h1,qf,ha,s1,NI,x,h2,h3,yw,t2,t3,y,z⟩;have Ag:h1.apart h2:=dL.Fa ha (dL.Af _) t2;have yx:h1.apart h3:=dL.Fa ha (dL.Af _) t3;refine⟨h1.sk h2,h3,?_,dL.NF s1 (dL.E9 t2 NI),dL.E9 t3 NI,⟨h1,h2,Ag,dL.Iy _ _,dL.Iz Ag,x,y⟩,z⟩;intro b;rcases yw b with h|h
   .rcases yx b with h'|h'
    .exact .inl (by simp[dL.sk,h,h'])
    .exact .inr h'
   .exact .inr h)
 exact congrArg HP.mk e
theorem Fb (A B C:HP):A*(B*C)=B*(A*C):=by rw[<-vC,Cw A B,vC]
instance:Std.Associative (α:=HP) (·*·):=⟨vC⟩
instance:Std.Commutative (α:=HP) (·*·):=⟨Cw⟩
structure V (O:World) (A:HP) (w:World):Prop where
 os:w.os=O.os
 tape:w.tape=O.tape
 output:w.output=O.output
 size:O.heap.size<=w.heap.size
 heap:∃h:dL,(∀b o,h b=some o->w.heap[b]?=some o)/\A.holds h
section
variable {O w:World} {A B C F:HP}
theorem V.start (w:World):V w (mP w) w:=⟨rfl,rfl,rfl,eJ _,λb=>w.heap[b]?,λ_ _ h=>h,λ_ _ h=>h⟩
theorem V.aF (h:V O A w) (e:A=B):V O B w:=e▸h
theorem V.left (h:V O (A*B) w):V O A w:=by obtain⟨k,hk,h1,h2,_,s1,_,a,_⟩:=h.heap;exact⟨h.os,h.tape,h.output,h.size,h1,λb o e=>hk b o (s1 b o e),a⟩
theorem V.right (h:V O (A*B) w):V O B w:=(h.aF (Cw A B)).left
theorem V.drew (h:V O A w):V O A w.drew:=⟨h.os,h.tape,h.output,h.size,h.heap⟩
theorem V.cW (h:V O A w):V O cW w:=by obtain⟨k,hk,_⟩:=h.heap;exact⟨h.os,h.tape,h.output,h.size,k,hk,trivial⟩
theorem V.cQ (h:V O A w):V O (Sp.cW*A) w:=by obtain⟨k,hk,a⟩:=h.heap;exact⟨h.os,h.tape,h.output,h.size,k,hk,λ_=>none,k,λ_=>.inl rfl,λ_ _ e=>(by cases e),dL.Af _,trivial,a⟩
theorem V.Ah (h:V O (Sp.cW*A) w):V O A w:=h.right
theorem V.ob {b:Nat} {o:Obj} (h:V O (ob b o*F) w):w.heap[b]?=some o:=by obtain⟨k,hk,h1,h2,_,s1,_,a,_⟩:=h.heap;exact hk _ _ (s1 _ _ a)
theorem V.Cx {b:Nat} {o:Obj} (h:V O (Sp.ob b o) w):w.heap[b]?=some o:=by obtain⟨k,hk,a⟩:=h.heap;exact hk _ _ a
theorem V.cell {b:Nat} {cs:Array Value} {t:TypeId} (h:V O (ab b cs t) w) {i:Nat} {v:Value} (hv:cs[i]?=some v):w.cell? ⟨b,i,none⟩=some v:=by simp[World.cell?,h.Cx,hv]
theorem V.NJ {j6:World} (h:V O (mP j6) w) {b:Nat} {o:Obj} (hb:j6.heap[b]?=some o):w.heap[b]?=some o:=by obtain⟨k,hk,a⟩:=h.heap;exact hk _ _ (a b o hb)
theorem V.VN {j6:World} (h:V O (mP j6) w) {a:Addr} {v:Value} (hc:j6.cell? a=some v):w.cell? a=some v:=by
 have aQ:=World.block_lt_of_cell? j6 a hc;have hb:j6.heap[a.block]?=some j6.heap[a.block]:=by simp[aQ]
 exact(World.cell?_of_block (w:=j6) ((h.NJ hb).trans hb.symm)).trans hc
theorem V.bM {p:Prop} (h:V O (Sp.bM p*A) w):p:=by obtain⟨k,hk,h1,h2,_,s1,_,a,_⟩:=h.heap;exact a
theorem V.eL {p:Prop} (hp:p) (h:V O A w):V O (Sp.bM p*A) w:=by obtain⟨k,hk,a⟩:=h.heap;exact⟨h.os,h.tape,h.output,h.size,k,hk,λ_=>none,k,λ_=>.inl rfl,λ_ _ e=>(by cases e),dL.Af _,hp,a⟩
theorem V.ex {α:Type} {f:α->HP} (h:V O (ex f*F) w):∃x,V O (f x*F) w:=by obtain⟨k,hk,h1,h2,ha,s1,s2,⟨x,a⟩,b⟩:=h.heap;exact⟨x,h.os,h.tape,h.output,h.size,k,hk,h1,h2,ha,s1,s2,a,b⟩
theorem V.bO {α:Type} {f:α->HP} (x:α) (h:V O (f x*F) w):V O (Sp.ex f*F) w:=by obtain⟨k,hk,h1,h2,ha,s1,s2,a,b⟩:=h.heap;exact⟨h.os,h.tape,h.output,h.size,k,hk,h1,h2,ha,s1,s2,⟨x,a⟩,b⟩
theorem V.imp (h:V O (A*F) w) (hi:∀k,A.holds k->B.holds k):V O (B*F) w:=by obtain⟨k,hk,h1,h2,ha,s1,s2,a,b⟩:=h.heap;exact⟨h.os,h.tape,h.output,h.size,k,hk,h1,h2,ha,s1,s2,hi _ a,b⟩
theorem V.below {j6:World} (h:V j6 (mP j6*F) w):Below j6.heap.size j6 w:=by
 refine⟨h.os,h.tape,h.output,h.size,λk hk=> ?_⟩;have hb:j6.heap[k]?=some j6.heap[k]:=by simp[hk]
 exact(h.left.NJ hb).trans hb.symm
theorem V.step {w':World} (h:V O (A*F) w) (VO:w'.os=w.os) (VP:w'.tape=w.tape) (qg:w'.output=w.output) (VQ:w.heap.size<=w'.heap.size) (hA:∀h1:dL,A.holds h1->(∀b o,h1 b=some o->w.heap[b]?=some o)-> ∃gO:dL,B.holds gO/\(∀b o,gO b=some o->w'.heap[b]?=some o)/\(∀b o,gO b=some o->h1 b=none->w.heap[b]?=none)/\ ∀b o,h1 b=none->w.heap[b]?=some o->w'.heap[b]?=some o):V O (B*F) w':=by
 obtain⟨k,hk,h1,h2,ha,s1,s2,a,b⟩:=h.heap;obtain⟨gO,hB,VR,Fc,VS⟩:=hA h1 a λb o e=>hk b o (s1 b o e);have EZ:gO.apart h2:=by
  intro x;cases e1:gO x with
  |none=>exact .inl rfl
  |some o=>
   right;cases e2:h2 x with
   |none=>rfl
   |some o2=>
    rcases ha x with e|e
    .have:=Fc x o e1 e;rw[hk x o2 (s2 x o2 e2)] at this;cases this
    .rw[e] at e2;cases e2
 refine⟨VO.trans h.os,VP.trans h.tape,qg.trans h.output,Nat.le_trans h.size VQ,gO.sk h2,?_,gO,h2,EZ,dL.Iy _ _,dL.Iz EZ,hB,b⟩;intro x o e;simp only[dL.sk] at e;cases e1:gO x with
 |some o'=>rw[e1] at e;simp at e;subst e;exact VR x _ e1
 |none=>
  rw[e1] at e;simp at e;rcases ha x with e2|e2
  .exact VS x o e2 (hk x o (s2 x o e))
  .rw[e2] at e;cases e
theorem V.setCell {b i:Nat} {cs:Array Value} {t:TypeId} (h:V O (ab b cs t*F) w) (v:Value) (hi:i<cs.size): V O (ab b (cs.setIfInBounds i v) t*F) (w.setCell ⟨b,i,none⟩ v):=by
 have hb:=h.ob;have aQ:b<w.heap.size:=(yi.1 hb).1;refine h.step rfl rfl rfl (by simp[World.setCell]) ?_;intro h1 a hw;refine⟨λx=>if x=b then some (.cells (cs.setIfInBounds i v) t (0,0)) else none,by simp[Sp.ob],?_,?_,?_⟩
 .intro x o e;dsimp only at e;split at e
  .rename_i e';subst e';cases e;simp only[World.setCell,Array.getElem?_modify];simp[hb]
  .cases e
 .intro x o e e1;dsimp only at e;split at e
  .rename_i e';subst e';have a':h1 x=_:=a;rw[a'] at e1;cases e1
  .cases e
 .intro x o e1 hx;have cp:x≠b:=by rintro rfl;have a':h1 x=_:=a;rw[a'] at e1;cases e1
  rw[Below.heap_setCell _ _ _ _ cp];exact hx
theorem V.alloc (h:V O F w) (o:Obj):V O (Sp.ob w.heap.size o*F) (w.alloc o):=by
 refine(h.cQ).step rfl rfl rfl (by simp) ?_;intro h1 _ hw;refine⟨λx=>if x=w.heap.size then some o else none,by simp[Sp.ob],?_,?_,?_⟩
 .intro x o' e;dsimp only at e;split at e
  .rename_i e';subst e';cases e;exact heap_alloc_new w o
  .cases e
 .intro x o' e e1;dsimp only at e;split at e
  .rename_i e';subst e';simp
  .cases e
 .intro x o' e1 hx;exact(Below.heap_alloc w o x (yi.1 hx).1).trans hx
end
theorem V.putObj {O w:World} {F:HP} {b:Nat} {o:Obj} (h:V O (Sp.ob b o*F) w) (o':Obj):V O (Sp.ob b o'*F) (w.putObj b o'):=by
 have hb:=h.ob;have aQ:b<w.heap.size:=(yi.1 hb).1;refine h.step rfl rfl rfl (by simp) ?_;intro h1 a hw;refine⟨λx=>if x=b then some o' else none,by simp[Sp.ob],?_,?_,?_⟩
 .intro x ox e;dsimp only at e;split at e
  .rename_i e';subst e';cases e;exact World.putObj_heap_same aQ
  .cases e
 .intro x ox e e1;dsimp only at e;split at e
  .rename_i e';subst e';have a':h1 x=_:=a;rw[a'] at e1;cases e1
  .cases e
 .intro x ox e1 hx;have cp:x≠b:=by rintro rfl;have a':h1 x=_:=a;rw[a'] at e1;cases e1
  exact(World.putObj_heap_other cp).trans hx
section
variable {O w:World} {A B C F:HP} {t:TypeId} {sz:Nat} {p:Option Addr} {l c:Nat} {xs:List Value}
theorem V.so (h:V O (own t sz p l c xs) w):xs.length=l*sz:=by obtain⟨k,hk,a⟩:=h.heap;exact a.1
theorem V.po (h:V O (own t sz p l c xs) w):w.ownsRow 0 t sz (.slice p l c) l xs:=by
 obtain⟨k,hk,hl,a⟩:=h.heap;refine⟨hl,?_⟩;rcases a with⟨rfl,rfl,rfl⟩|⟨g,cur,rfl,hg,h1,h2,h3,h4⟩
 .exact .inl ⟨rfl,rfl⟩
 .exact .inr ⟨g,c,cur,rfl,pb _,hk _ _ hg,h1,h2,h3,h4⟩
theorem V.IA (h:V O (own t sz p l c xs) w) {a:Addr} (hp:p=some a) {j:Nat} {v:Value} (hv:xs[j]?=some v):w.cell? (a.add j)=some v:=by
 have hr:=h.po;subst hp;rcases hr.2 with⟨e,_⟩|⟨g,cap,cur,e,_⟩
 .cases e
 .cases e;exact hr.cells (g:=g) rfl j v hv
theorem VT (h:dL):(own t sz none 0 0 []).holds h:=⟨by simp,.inl ⟨rfl,rfl,rfl⟩⟩
theorem V.iZ (t:TypeId) (sz:Nat) (h:V O F w):V O (own t sz none 0 0 []*F) w:=(h.cQ).imp λk _=>VT k
theorem V.lx {b:Nat} {cs:Array Value} {n:Nat} (h:V O (ab b cs t*F) w) (hs:cs.size=n*sz) (hn:n<=maxLen):V O (own t sz (aU b) n n cs.toList*F) w:=h.imp λk a=>⟨by simp[hs],.inr ⟨b,cs,rfl,a,eJ _,hn,hs,by rw[<-hs,<-pW,j4]⟩⟩
theorem V.yy {w':World} {p':Option Addr} {l' c':Nat} {ys:List Value} (h:V O (own t sz p l c xs*F) w) (qW:w'.ownsRow 0 t sz (.slice p' l' c') l' ys) (hg:w.grownBy w' (Value.slice p l c).ownBlock) (VU:(Value.slice p' l' c').ownBlock=(Value.slice p l c).ownBlock\/∃b,(Value.slice p' l' c').ownBlock=some b/\w.heap.size<=b): V O (own t sz p' l' c' ys*F) w':=by
 refine h.step hg.os hg.tape hg.output hg.size ?_;intro h1 a hw;have gJ:∀b o,h1 b=none->w.heap[b]?=some o->some b≠(Value.slice p l c).ownBlock:=by
  intro b o e hb he;rcases a.2 with⟨rfl,_,_⟩|⟨g,cur,rfl,Fe,_⟩
  .simp[Value.ownBlock] at he
  .simp only[Value.ownBlock,Option.some.injEq] at he;subst he;rw[e] at Fe;cases Fe
 rcases qW.2 with⟨e,Ff⟩|⟨g,cap,cur,e,_,VV,gO,Cy,qX,ug⟩
 .cases e;refine⟨λ_=>none,⟨qW.1,.inl ⟨rfl,rfl,rfl⟩⟩,λ_ _ e=>(by cases e),λ_ _ e=>(by cases e),λb o e hb=> ?_⟩;rw[hg.block b (yi.1 hb).1 (gJ b o e hb)];exact hb
 .cases e;refine⟨λx=>if x=g then some (.cells cur t (0,0)) else none,⟨qW.1,.inr ⟨g,cur,rfl,by simp,gO,Cy,qX,ug⟩⟩,?_,?_,?_⟩
  .intro x o e;dsimp only at e;split at e
   .rename_i e';subst e';cases e;exact VV
   .cases e
  .intro x o e e1;dsimp only at e;split at e
   .rename_i e';subst e';rcases VU with hb|⟨b,hb,hle⟩
    .simp only[Value.ownBlock] at hb;rcases a.2 with⟨rfl,_,_⟩|⟨g',Fg,rfl,Fe,_⟩
     .simp at hb
     .simp only[Option.some.injEq] at hb;subst hb;rw[Fe] at e1;cases e1
    .simp only[Value.ownBlock,Option.some.injEq] at hb;subst hb;simpa using hle
   .cases e
  .intro b o e hb;rw[hg.block b (yi.1 hb).1 (gJ b o e hb)];exact hb
end
end Go.Sp
