/- Whole: a part of the proof. No conditions. -/
import Derived.WalkKit
import Derived.OrdersHeld
import Derived.Laws.AppendOwn
import Derived.Laws.OwnMore
import Derived.KernelRfl
set_option linter.unusedVariables false
set_option linter.unusedSimpArgs false
set_option maxRecDepth 100000
set_option linter.defProp false
namespace Go
abbrev bo:=Nat->Value
abbrev ao:=World
abbrev av:=Option Addr
abbrev nE:=Value->World->Prop
abbrev aJ:=List Int
abbrev dB:=List Value
abbrev aM:=Array Value
def ct:=@List.getElem?_eq_some_iff
def bZ:=@Option.bind_eq_some_iff
def cu:=@Int.toNat_natCast
def dd:=@Option.map_eq_some_iff
def dF:=@List.mem_of_getElem?
def eW:=@List.take_of_length_le
def gm:=@List.getElem?_eq_getElem
def ix:=@List.getElem?_append_right
def dc:=@Nat.zero_add
def eZ:=@List.getElem?_map
def gp:=@List.length_append
def fB:=@List.length_take
def fV:=@List.take_add_one
def fj:=@List.mem_append
def fk:=@List.length_map
def cT:=@Array.ext'
def gg:=@Option.bind_some
def ll:=@List.drop_eq_getElem_cons
def m5:=@List.eq_nil_of_length_eq_zero
def iy:=@List.append_assoc
def iA:=@Decidable.not_not
def kI:=@List.getElem?_toArray
def iB:=@List.length_cons
def lp:=@List.set_append_right
def eJ:=@Nat.le_refl
def fC:=@List.mem_map
def jE:=@List.flatMap_cons
def mJ:=@List.drop_of_length_le
def jR:=@List.getElem?_set
def mK:=@List.take_append_drop
def oZ:=@List.extract_eq_take_drop
def lS:=@Bool.false_eq_true
def j4:=@List.take_length
def jS:=@List.append_nil
def pS:=@List.mem_or_eq_of_mem_set
def mL:=@List.mem_singleton
def sU:=@List.take_append_of_le_length
def jo:=@List.map_cons
def rZ:=@Array.toList_setIfInBounds
def r9:=@List.getElem?_append_left
def jF:=@List.set_set
def pT:=@Nat.mul_le_mul_right
def pU:=@List.mem_of_mem_take
def m6:=@Bool.and_eq_true
def pV:=@Array.toList_extract
def pW:=@Array.length_toList
def m8:=@List.nil_append
def sa:=@List.mem_iff_getElem?
def jT:=@Nat.mul_one
def nF:=@List.map_append
def lq:=@List.map_map
def m9:=@List.drop_zero
def qP:=@List.getElem?_drop
def sV:=@List.mem_of_mem_drop
def pX:=@List.cons_append
def o0:=@List.foldl_cons
def qQ:=@List.ext_getElem?
def ua:=@List.getElem?_eq_none
def sW:=@List.flatMap_append
def sb:=@List.nodup_append
def qR:=@Option.map_some
def qS:=@List.take_left'
def yh:=@Array.getD_eq_getD_getElem?
def sc:=@List.length_drop
def sd:=@List.getElem_mem
def se:=@List.all_eq_true
def pa:=@List.mem_cons
def lT:=@Int.not_lt
def yi:=@Array.getElem?_eq_some_iff
def qT:=@List.take_zero
def vp:=@List.getElem?_take
def sX:=@Bool.eq_iff_iff
def ub:=@List.drop_append
def pb:=@Nat.zero_le
def pd:=@Nat.add_mul
def wH:=@Nat.eq_zero_or_pos
def B1:=@Array.getElem?_setIfInBounds
def vq:=@List.nodup_cons
def yj:=@List.map_congr_left
def wI:=@List.take_append
def sY:=@Nat.lt_or_ge
def sZ:=@Nat.add_zero
def zL:=@Array.getElem?_toList
def vr:=@List.mem_range
def B2:=@Array.getElem?_eq_getElem
def zM:=@List.getElem?_range
def B3:=@List.getElem?_cons_zero
def B4:=@List.eraseIdx_cons_succ
def zN:=@Int.toNat_of_nonneg
def B5:=@Int.eq_ofNat_of_zero_le
def Ex:=@Nat.shiftLeft_add_eq_or_of_lt
def Ey:=@List.drop_append_of_le_length
def B6:=@List.getElem?_eraseIdx
def B7:=@Array.getElem?_eq_none
def zO:=@List.set_cons_succ
def zP:=@List.findIdx?_cons
def B8:=@List.length_singleton
def yk:=@List.length_nil
def vt:=@Decidable.em
def wJ:=@List.map_take
def B9:=@Bool.or_eq_false_iff
def zQ:=@Nat.mod_eq_of_lt
def zR:=@List.mem_flatMap
def Ca:=@List.take_succ_cons
def Cb:=@List.replicate_succ
def wK:=@List.map_set
def Ez:=@List.length_filterMap_le
def Cc:=@Option.toList_some
def Cd:=@List.set_cons_zero
def EB:=@List.getElem?_cons_succ
def H4:=@List.findIdx?_eq_some_iff_getElem
def EC:=@List.find?_cons_of_neg
def ED:=@Array.getElem?_extract
def Ce:=@List.size_toArray
def zS:=@List.drop_left
def yl:=@Nat.sub_self
def EE:=@List.set_getElem_self
def EF:=@Classical.choose_spec
def Cf:=@List.not_mem_nil
def Cg:=@List.any_eq_true
def EG:=@List.length_eraseIdx
def zT:=@List.sum_cons
def EH:=@List.replicate_zero
def Ch:=@List.mem_filter
def EI:=@List.drop_succ_cons
def Ci:=@List.drop_left'
def Cj:=@Int.natCast_mul
def zU:=@List.map_nil
def H6:=@List.getElem?_eq_none_iff
def Ck:=@List.foldl_nil
def Cl:=@List.drop_drop
def H7:=@List.mem_of_mem_eraseIdx
def EJ:=@List.foldl_append
end Go
namespace Go.Sp
open Go.RowKit
abbrev ag (p:Option Addr):Value:=Value.pointer p
abbrev af (p:Option Addr) (l c:Nat):Value:=Value.slice p l c
abbrev ak (l:Array Value):Value:=Value.tuple l
abbrev an (l:Array Value):Value:=Value.agg l
abbrev aC (b:Bool):Value:=Value.bool b
abbrev aD (k:Nat):Addr:=Addr.mk k 0 none
abbrev aU (k:Nat):Option Addr:=some (aD k)
abbrev al (k:Nat):Value:=Value.pointer (aU k)
abbrev ar:Value:=Value.int .u8 0
abbrev aa (n:Int):Value:=Value.int IntKind.i64 n
abbrev ah (n:Int):Value:=Value.int IntKind.u64 n
abbrev aH (n:Int):Value:=Value.int IntKind.u32 n
abbrev aP:Value:=Value.slice none 0 0
abbrev aT:Value:=Value.tuple #[]
abbrev gq:Array Value:=#[aH 0,aH 0,ah 0,ah 0,ar,ar,ar,ar,ar,ar,ar,ar,ar,ar,ar,ar,ar,ar,ar,ar,ar,ar,ar,ar,ar,ar,ar,ar,ar,ar,ar,ar,ar,ar,ar,ar]
abbrev iC:Array Value:=#[aa 0,aa 0,aa 0,ah 0,ah 0,ar,ar,ar,ar,ar,ar,ar,ar,ar,ar,ar,ar,ar,ar,ar,ar,aa 0,aa 0,aa 0,aP]
abbrev lr:Array Value:=#[ar,ar,ar,ar,ar,ar,ar,ar,ar,ar,ar,ar,ar,ar,ar,ar]
abbrev mM:Array Value:=#[ar,ar,ar,ar,ar,ar,ar,ar,ar,ar,ar,ar,ar,ar,ar,ar,aP,aa 0,aP]
abbrev sf:Array Value:=#[aa 0,ah 0,ar,ar,ar,ar,ar,ar,ar,ar,ar,ar,ar,ar,ar,ar,ar,ar,aH 0]
abbrev vu:Array Value:=#[aH 0,aH 0,ah 0,ah 0,ar,ar,ar,ar,ar,ar,ar,ar,ar,ar,ar,ar,ar,ar,ar,ar,ar,ar,ar,ar,ar,ar,ar,ar,ar,ar,ar,ar,ar,ar,ar,ar,aa 0]
abbrev ym:Array Value:=#[aa 0,aH 0,aH 0,ah 0,ah 0,ar,ar,ar,ar,ar,ar,ar,ar,ar,ar,ar,ar,ar,ar,ar,ar,ar,ar,ar,ar,ar,ar,ar,ar,ar,ar,ar,ar,ar,ar,ar,ar]
abbrev EK:Array Value:=#[ar,ar,ar,ar,ar,ar,ar,ar,ar,ar,ar,ar,ar,ar,ar,ar,aa 0]
abbrev lu (a b c d e f g h:Value):Array Value:=#[a,b,c,d,ar,ar,ar,ar,ar,ar,ar,ar,ar,ar,ar,ar,ar,ar,ar,ar,e,ar,ar,ar,ar,ar,ar,ar,ar,ar,ar,ar,ar,ar,ar,ar,ar,.string ByteArray.empty,f,aP,g,h,.bool false]
abbrev zV (a b c d e f g h:Value):Array Value:=#[a,b,c,d,e,ar,ar,ar,ar,ar,ar,ar,ar,ar,ar,ar,ar,ar,ar,ar,ar,f,g,h,aP]
def br (b:Bool) (X Y:Prop):Prop:=match b with|true=>X|false=>Y
def nn (p:Option Addr) (K:Addr->Prop):Prop:=match p with|some a=>K a|none=>False
def arith (k:IntKind) (e:Int) (K:Int->Prop):Prop:=K (k.wrap e)
def quo (k:IntKind) (x y:Int) (K:Int->Prop):Prop:=y≠0/\K (k.wrap (x.tdiv y))
def rem (x y:Int) (K:Int->Prop):Prop:=y≠0/\K (x.tmod y)
def shl (k:IntKind) (x y:Int) (K:Int->Prop):Prop:=¬y<0/\K (k.wrap (x*2^(min y.toNat k.bits)))
def shr (k:IntKind) (x y:Int) (K:Int->Prop):Prop:=¬y<0/\K (x.fdiv (2^(min y.toNat k.bits)))
def gr (op:BinOp) (k:IntKind) (x y:Int):Int:=
 match op with
 |.and=>k.wrap (BitVec.ofInt k.bits x&&& BitVec.ofInt k.bits y).toNat
 |.or=>k.wrap (BitVec.ofInt k.bits x|||BitVec.ofInt k.bits y).toNat
 |.xor=>k.wrap (BitVec.ofInt k.bits x^^^BitVec.ofInt k.bits y).toNat
 |.andNot=>k.wrap (BitVec.ofInt k.bits x&&& ~~~ BitVec.ofInt k.bits y).toNat
 |_=>0
def ba (p:Option Addr) (l:Nat) (i:Int) (sz:Nat) (K:Addr->Prop):Prop:=
 match p with|some a=>(0<=i/\i<(l:Int))/\K (a.add (i.toNat*sz))|none=>False
def j5 (a:Addr) (n:Nat) (i:Int) (sz:Nat) (K:Addr->Prop):Prop:=(0<=i/\i<(n:Int))/\K (a.add (i.toNat*sz))
def EL (s:ByteArray) (i:Int) (K:Int->Prop):Prop:=0<=i/\∃b:UInt8,s[i.toNat]?=some b/\K (b.toNat:Int)
def wL (k:IntKind) (vs:Array Value) (o:Nat) (K:Int->Prop):Prop:=∃n,vs[o]?=some (.int k n)/\K n
def UN (vs:Array Value) (o:Nat) (K:Bool->Prop):Prop:=∃b,vs[o]?=some (.bool b)/\K b
def UO (vs:Array Value) (o:Nat) (K:Option Addr->Prop):Prop:=∃p,vs[o]?=some (.pointer p)/\K p
def H8 (vs:Array Value) (o:Nat) (K:Option Addr->Nat->Nat->Prop):Prop:=∃p l c,vs[o]?=some (.slice p l c)/\K p l c
def UP (vs:Array Value) (o:Nat) (K:ByteArray->Prop):Prop:=∃s,vs[o]?=some (.string s)/\K s
def Nc (vs:Array Value) (o:Nat) (K:Value->Prop):Prop:=∃v,vs[o]?=some v/\K v
def zW (places:List (Nat×Nat)) (K:Array Value->Prop):List (Nat×Value)->List (Array Value)->Prop
 |[],dS=>K (dS.foldl (·++·) #[])
 |(i,v)::rest,dS=>match places[i]? with
  |some (_,n)=>match v with
   |.agg vs=>vs.size=n/\zW places K rest (dS.set i vs)
   |.tuple _=>False
   |v=>if n=1 then zW places K rest (dS.set i #[v]) else False
  |none=>False
def ax (k:IntKind) (a:Addr) (w:World) (K:Int->Prop):Prop:=∃n,w.cell? a=some (.int k n)/\K n
def fL (a:Addr) (w:World) (K:Bool->Prop):Prop:=∃b,w.cell? a=some (.bool b)/\K b
def aX (a:Addr) (w:World) (K:Option Addr->Prop):Prop:=∃p,w.cell? a=some (.pointer p)/\K p
def aL (a:Addr) (w:World) (K:Option Addr->Nat->Nat->Prop):Prop:=∃p l c,w.cell? a=some (.slice p l c)/\K p l c
def UQ (a:Addr) (w:World) (K:ByteArray->Prop):Prop:=∃s,w.cell? a=some (.string s)/\K s
def iY (a:Addr) (w:World) (K:Option Nat->Prop):Prop:=∃r,w.cell? a=some (.map r)/\K r
def zX (a:Addr) (w:World) (K:Fn->Array Value->Array Value->Prop):Prop:=∃f b c,w.cell? a=some (.func f b c)/\K f b c
def UR (a:Addr) (w:World) (K:Value->Prop):Prop:=∃v,w.cell? a=some v/\K v
def aA (a:Addr) (n:Nat) (w:World) (K:Array Value->Prop):Prop:=∃vs:Array Value,vs.size=n/\(∀i,i<n->w.cell? (a.add i)=vs[i]?)/\K vs
def cellsOf (a:Addr) (vs:Array Value):List (Addr×Value):=vs.toList.zipIdx.map λ(v,i)=>(a.add i,v)
def st (a:Addr) (v:Value) (w:World) (K:World->Prop):Prop:=(∃u,w.cell? a=some u)/\w.frozen? a=false/\K (w.setCell a v)
def aS (P:Program) (a:Addr) (n:Nat) (vs:Array Value) (w:World) (K:World->Prop):Prop:=vs.size=n/\∃w',(storeCells a vs.toList).run P w=.ok () w'/\K w'
def new (cs:Array Value) (t:TypeId) (w:World) (K:Nat->World->Prop):Prop:=K w.heap.size (w.alloc (.cells cs t))
def runs {α:Type} (P:Program) (s:Sem α) (w:World) (K:α->World->Prop):Prop:=∃v w',s.run P w=.ok v w'/\K v w'
def still {α:Type} (P:Program) (s:Sem α) (K:α->Prop):Prop:=∃v,(∀w,s.run P w=.ok v w)/\K v
def bR (P:Program) (s:Sem Value) (w:World) (K:Option Addr->Nat->Nat->World->Prop):Prop:=∃p l c w',s.run P w=.ok (.slice p l c) w'/\K p l c w'
def EM (P:Program) (s:Sem Value) (w:World) (K:ByteArray->World->Prop):Prop:=∃t w',s.run P w=.ok (.string t) w'/\K t w'
def H9 (k:IntKind) (P:Program) (s:Sem Value) (w:World) (K:Int->World->Prop):Prop:=∃n w',s.run P w=.ok (.int k n) w'/\K n w'
def Ia (P:Program) (s:Sem Value) (w:World) (K:Addr->World->Prop):Prop:=∃a w',s.run P w=.ok (.pointer (some a)) w'/\K a w'
def Ib (P:Program) (it:Value) (s:Bool) (ty:TypeId) (w:World) (F:World->Prop) (T:Value->Value->World->Prop):Prop:=
 (∃w',(Instr.next it s ty).run P w=.ok (.tuple #[.bool false]) w'/\F w')\/∃k v w',(Instr.next it s ty).run P w=.ok (.tuple #[.bool true,k,v]) w'/\T k v w'
def Ic (P:Program) (it:Value) (w:World) (K:Value->Value->Prop):Prop:=∃k v,(Instr.entry it).run P w=.ok (.tuple #[k,v]) w/\K k v
def Ie (P:Program) (s:Sem Value) (w:World) (K:Value->Prop):Prop:=∃v,s.run P w=.ok v w/\K v
def zY (P:Program) (s:Sem Value) (w:World) (K:Addr->Prop):Prop:=∃a,s.run P w=.ok (.pointer (some a)) w/\K a
def uc (w:World) (K:Nat->World->Prop):Prop:=K w.heap.size (w.alloc (.map #[] 0))
def nG (P:Program) (t:TypeId) (r:Option Nat) (i:Value) (ok:Bool) (w:World) (K:Value->Prop):Prop:=∃v,(Instr.lookup t (.map r) i ok).run P w=.ok v w/\K v
def qU (P:Program) (t:TypeId) (r:Option Nat) (k v:Value) (w:World) (K:World->Prop):Prop:=∃w',(Instr.mapUpdate t (.map r) k v).run P w=.ok () w'/\K w'
def zZ (P:Program) (ts:Array TypeId) (ty:TypeId) (r:Option Nat) (k:Value) (w:World) (K:World->Prop):Prop:=∃w',(Builtin.delete_ ts ty #[.map r,k]).run P w=.ok (.tuple #[]) w'/\K w'
def US (P:Program) (ts:Array TypeId) (ty:TypeId) (r:Option Nat) (w:World) (K:Int->Prop):Prop:=∃n,(Builtin.len_ ts ty #[.map r]).run P w=.ok (aa n) w/\K n
def fD (p:Option Addr) (c:Nat) (sz:Nat) (lo hi:Int) (K:Option Addr->Nat->Nat->Prop):Prop:=
 (0<=lo/\lo<=hi/\hi<=(c:Int))/\K (if c=lo.toNat then p else p.map (·.add (lo.toNat*sz))) (hi.toNat- lo.toNat) (c- lo.toNat)
def Nd (p:Option Addr) (c:Nat) (sz:Nat) (lo hi mx:Int) (K:Option Addr->Nat->Nat->Prop):Prop:=
 (0<=lo/\lo<=hi/\hi<=mx/\mx<=(c:Int))/\K (if mx.toNat=lo.toNat then p else p.map (·.add (lo.toNat*sz))) (hi.toNat- lo.toNat) (mx.toNat- lo.toNat)
def EN (P:Program) (ts:Array TypeId) (ty:TypeId) (p:Option Addr) (l c:Nat) (w:World) (K:World->Prop):Prop:=∃w',(Builtin.clear_ ts ty #[.slice p l c]).run P w=.ok (.tuple #[]) w'/\K w'
def call (P:Program) (f:FuncId) (args:Array Value) (w:World) (K:Value->World->Prop):Prop:=
 Calls P f args w λe w'=>∃v,e=.returned v/\K v w'
inductive Shape where
 |int (k:IntKind)|bool|ptr|slice|str|map|agg|any|s0|func
def ph:List Shape->(List Value->Prop)->Prop
 |[],K=>K []
 |.int k::s,K=>∃n:Int,ph s λvs=>K (.int k n::vs)
 |.bool::s,K=>∃b:Bool,ph s λvs=>K (.bool b::vs)
 |.ptr::s,K=>∃p:Option Addr,ph s λvs=>K (.pointer p::vs)
 |.slice::s,K=>∃(p:Option Addr) (l c:Nat),ph s λvs=>K (.slice p l c::vs)
 |.str::s,K=>∃t:ByteArray,ph s λvs=>K (.string t::vs)
 |.map::s,K=>∃r:Option Nat,ph s λvs=>K (.map r::vs)
 |.agg::s,K=>∃a:Array Value,ph s λvs=>K (.agg a::vs)
 |.any::s,K=>∃v:Value,ph s λvs=>K (v::vs)
 |.s0::s,K=>∃a:Addr,ph s λvs=>K (.pointer (some a)::vs)
 |.func::s,K=>∃(f:Fn) (a b:Array Value),ph s λvs=>K (.func f a b::vs)
def bp (k:IntKind) (v:Value) (K:Int->Prop):Prop:=∃n,v=.int k n/\K n
def cX (v:Value) (K:Bool->Prop):Prop:=∃b,v=.bool b/\K b
def gh (v:Value) (K:Option Addr->Prop):Prop:=∃p,v=.pointer p/\K p
def gI (v:Value) (K:Option Addr->Nat->Nat->Prop):Prop:=∃p l c,v=.slice p l c/\K p l c
def UT (v:Value) (K:ByteArray->Prop):Prop:=∃s,v=.string s/\K s
def z5 (v:Value) (K:Option Nat->Prop):Prop:=∃r,v=.map r/\K r
def jU (v:Value) (K:Array Value->Prop):Prop:=∃a,v=.agg a/\K a
def jq (v:Value) (K:Fn->Array Value->Array Value->Prop):Prop:=∃f a b,v=.func f a b/\K f a b
def Cm (f:Fn) (X:Prop):Prop:=match f with|.func _=>X|.yield _=>X|_=>False
def Ig (s:Shape) (v:Value) (K:Value->Prop):Prop:=
 match s with
 |.int k=>bp k v λn=>K (.int k n)
 |.bool=>cX v λb=>K (.bool b)
 |.ptr=>gh v λp=>K (.pointer p)
 |.slice=>gI v λp l c=>K (.slice p l c)
 |.str=>UT v λs=>K (.string s)
 |.map=>z5 v λr=>K (.map r)
 |.agg=>jU v λa=>K (.agg a)
 |.any=>K v
 |.s0=>∃a,v=.pointer (some a)/\K (.pointer (some a))
 |.func=>jq v λf a b=>K (.func f a b)
theorem UU {s:Shape} {v:Value} {K:Value->Prop} (h:Ig s v K):K v:=by
 cases s<;>simp only[Ig] at h;case int k=>obtain⟨_,rfl,h⟩:=h;exact h
 case bool=>obtain⟨_,rfl,h⟩:=h;exact h
 case ptr=>obtain⟨_,rfl,h⟩:=h;exact h
 case slice=>obtain⟨_,_,_,rfl,h⟩:=h;exact h
 case str=>obtain⟨_,rfl,h⟩:=h;exact h
 case map=>obtain⟨_,rfl,h⟩:=h;exact h
 case agg=>obtain⟨_,rfl,h⟩:=h;exact h
 case any=>exact h
 case s0=>obtain⟨_,rfl,h⟩:=h;exact h
 case func=>obtain⟨_,_,_,rfl,h⟩:=h;exact h
def Ih (s:List Shape) (v:Value) (K:List Value->Prop):Prop:=ph s λvs=>v=.tuple vs.toArray/\K vs
theorem Nf {s:List Shape} {K:List Value->Prop} (h:ph s K):∃vs,K vs:=by
 induction s generalizing K with
 |nil=>exact⟨[],h⟩
 |cons x s ih=>
  cases x<;>simp only[ph] at h;case slice=>obtain⟨_,_,_,h⟩:=h;obtain⟨vs,h⟩:=ih h;exact⟨_,h⟩
  case func=>obtain⟨_,_,_,h⟩:=h;obtain⟨vs,h⟩:=ih h;exact⟨_,h⟩
  all_goals (obtain⟨_,h⟩:=h;obtain⟨vs,h⟩:=ih h;exact⟨_,h⟩)
theorem UW {s:List Shape} {v:Value} {K:Value->Prop} (h:Ih s v λvs=>K (.tuple vs.toArray)):K v:=by unfold Ih at h;obtain⟨vs,e,h'⟩:=Nf h;rw[e];exact h'
def lv (P:Program) (t:TypeId):Shape:=
 match P.underlying t with
 |some (.int k)=>.int k
 |some .bool=>.bool
 |some (.pointer _)=>.ptr
 |some (.slice _)=>.slice
 |some .string=>.str
 |some (.map _ _)=>.map
 |some (.struct _)=>.agg
 |some (.array _ _)=>.agg
 |some (.func ..)=>.func
 |_=>.any
def z6 (P:Program) (t:TypeId) (v:Value) (K:Value->Prop):Prop:=
 match P.underlying t with
 |some (.tuple ts)=>Ih (ts.toList.map (lv P)) v λvs=>K (.tuple vs.toArray)
 |_=>Ig (lv P t) v K
theorem yn {P:Program} {t:TypeId} {v:Value} {K:Value->Prop} (h:z6 P t v K):K v:=by
 unfold z6 at h;split at h
 .exact UW h
 .exact UU h
def Sem.pw {α:Type} (P:Program):Sem α->(α->Prop)->Prop
 |.pure a,K=>K a
 |.program k,K=>Sem.pw P (k P) K
 |_,_=>False
theorem UX {α:Type} {P:Program} {K:α->Prop}:∀{s:Sem α},Sem.pw P s K->∃a,K a/\∀w,s.run P w=.ok a w:=by
 intro s;induction s with
 |pure a=>exact λh=>⟨a,h,λ_=>rfl⟩
 |program k ih=>intro h;obtain⟨a,ha,hr⟩:=ih P h;exact⟨a,ha,λw=>by simpa[Sem.run] using hr w⟩
 |_=>intro h;exact h.elim
def vv (K:Value->Prop):Next->Prop
 |.value v=>K v
 |_=>False
def Ii (P:Program) (op:BinOp) (xt:TypeId) (vx vy:Value) (K:Value->Prop) (D:Prop):Prop:=
 match op with
 |.add=>match vx,vy with
  |.int k a,.int k' b=>if k=k' then arith k (a+b) λr=>K (.int k r) else False
  |_,_=>D
 |.sub=>match vx,vy with
  |.int k a,.int k' b=>if k=k' then arith k (a- b) λr=>K (.int k r) else False
  |_,_=>D
 |.mul=>match vx,vy with
  |.int k a,.int k' b=>if k=k' then arith k (a*b) λr=>K (.int k r) else False
  |_,_=>D
 |.quo=>match vx,vy with
  |.int k a,.int k' b=>if k=k' then quo k a b λr=>K (.int k r) else False
  |_,_=>D
 |.rem=>match vx,vy with
  |.int k a,.int k' b=>if k=k' then rem a b λr=>K (.int k r) else False
  |_,_=>D
 |.shl=>match vx,vy with
  |.int k a,.int _ b=>shl k a b λr=>K (.int k r)
  |_,_=>D
 |.shr=>match vx,vy with
  |.int k a,.int _ b=>shr k a b λr=>K (.int k r)
  |_,_=>D
 |.and=>match vx,vy with
  |.int k a,.int k' b=>if k=k' then K (.int k (gr .and k a b)) else False
  |_,_=>D
 |.or=>match vx,vy with
  |.int k a,.int k' b=>if k=k' then K (.int k (gr .or k a b)) else False
  |_,_=>D
 |.xor=>match vx,vy with
  |.int k a,.int k' b=>if k=k' then K (.int k (gr .xor k a b)) else False
  |_,_=>D
 |.andNot=>match vx,vy with
  |.int k a,.int k' b=>if k=k' then K (.int k (gr .andNot k a b)) else False
  |_,_=>D
 |.eql=>match vx,vy with
  |.pointer p,.pointer none=>match P.underlying xt with|some (.pointer _)=>K (.bool p.isNone)|_=>False
  |.slice p _ _,.slice none _ _=>match P.underlying xt with|some (.slice _)=>K (.bool p.isNone)|_=>False
  |.map p,.map none=>match P.underlying xt with|some (.map _ _)=>K (.bool p.isNone)|_=>False
  |.func _ _ _,.nilFunc=>match P.underlying xt with|some (.func _ _ _)=>K (.bool false)|_=>False
  |.agg a,.agg b=>match P.eqGuardType P.depth xt with|false=>still P (Op.equal xt (.agg a) (.agg b)) λe=>K (.bool e)|true=>False
  |_,_=>D
 |.neq=>match vx,vy with
  |.pointer p,.pointer none=>match P.underlying xt with|some (.pointer _)=>K (.bool !p.isNone)|_=>False
  |.slice p _ _,.slice none _ _=>match P.underlying xt with|some (.slice _)=>K (.bool !p.isNone)|_=>False
  |.map p,.map none=>match P.underlying xt with|some (.map _ _)=>K (.bool !p.isNone)|_=>False
  |.func _ _ _,.nilFunc=>match P.underlying xt with|some (.func _ _ _)=>K (.bool !false)|_=>False
  |.agg a,.agg b=>match P.eqGuardType P.depth xt with|false=>still P (Op.equal xt (.agg a) (.agg b)) λe=>K (.bool !e)|true=>False
  |_,_=>D
 |_=>D
theorem UY {P:Program} {xt e:TypeId} (h:P.underlying xt=some (.pointer e)) (p:Option Addr) (w:World): (Op.equal xt (.pointer p) (.pointer none)).run P w=.ok p.isNone w:=by
 generalize hd:9999=d;have e:Op.equal xt=Op.equalIn (d+1) xt:=by subst hd;rfl
 rw[e];cases p<;>(simp only[Op.equalIn,Sem.run_bind,run_underlying h,Result.andThen_ok];rfl)
theorem UZ {P:Program} {xt e:TypeId} (h:P.underlying xt=some (.slice e)) (p:Option Addr) (a b c d:Nat) (w:World): (Op.equal xt (.slice p a b) (.slice none c d)).run P w=.ok p.isNone w:=by
 generalize hd:9999=d;have e:Op.equal xt=Op.equalIn (d+1) xt:=by subst hd;rfl
 rw[e];cases p<;>(simp only[Op.equalIn,Sem.run_bind,run_underlying h,Result.andThen_ok];rfl)
theorem U0 {P:Program} {xt k e:TypeId} (h:P.underlying xt=some (.map k e)) (p:Option Nat) (w:World): (Op.equal xt (.map p) (.map none)).run P w=.ok p.isNone w:=by
 generalize hd:9999=d;have e:Op.equal xt=Op.equalIn (d+1) xt:=by subst hd;rfl
 rw[e];cases p<;>(simp only[Op.equalIn,Sem.run_bind,run_underlying h,Result.andThen_ok];rfl)
theorem U1 {P:Program} {xt:TypeId} {ps rs:Array TypeId} {v:Bool} (h:P.underlying xt=some (.func ps rs v)) (f:Fn) (a b:Array Value) (w:World): (Op.equal xt (.func f a b) .nilFunc).run P w=.ok false w:=by
 generalize hd:9999=d;have e:Op.equal xt=Op.equalIn (d+1) xt:=by subst hd;rfl
 rw[e];simp only[Op.equalIn,Sem.run_bind,run_underlying h,Result.andThen_ok];rfl
def placesOf (P:Program):List Field->Nat->Option (List (Nat×Nat))
 |[],_=>some []
 |f::fs,o=>match P.info? f.type with
  |some g=>if f.offset=o then(placesOf P fs (o+g.size)).map ((o,g.size)::·) else none
  |none=>none
def pY (n s:Nat):List (Nat×Nat):=(List.range n).map λi=>(i*s,s)
def oC (P:Program) (o:Oper) (ρ:Operand->Value) (K:Value->Prop):Prop:=
 match o.op with
 |.move x=>K (ρ x)
 |.assign x=>K (ρ x)
 |.pick c a b=>match ρ c with|.bool t=>br t (K (ρ a)) (K (ρ b))|_=>False
 |.nilCheck x=>match ρ x with
  |.pointer p=>nn p λa=>K (.pointer (some a))
  |.func f a b=>Cm f (K (.func f a b))
  |_=>False
 |.binOp op xt x y _=>Ii P op xt (ρ x) (ρ y) K (Sem.pw P (execOp ρ o) (vv K))
 |.convert src dst x=>match ρ x,P.underlying src,P.underlying dst with
  |.int _ n,some _,some (.int k)=>arith k n λr=>K (.int k r)
  |_,_,_=>Sem.pw P (execOp ρ o) (vv K)
 |.indexAddr t x i=>match P.underlying t,ρ x,ρ i with
  |some (.slice e),.slice p l _,.int _ i=>match P.info? e with|some f=>ba p l i f.size λa=>K (.pointer (some a))|none=>False
  |some (.array n e),.pointer (some a),.int _ i=>match P.info? e with|some f=>j5 a n i f.size λa=>K (.pointer (some a))|none=>False
  |_,_,_=>False
 |.index t x i=>match P.underlying t,ρ x,ρ i with
  |some .string,.string s,.int _ i=>EL s i λb=>K (.int .u8 b)
  |some (.array n e),.agg vs,.int _ i=>match P.info? e with
   |some f=>match lv P e with
    |.int k=>(0<=i/\i<(n:Int))/\wL k vs (i.toNat*f.size) λn=>K (.int k n)
    |.agg=>(0<=i/\i<(n:Int))/\K (.agg (vs.extract (i.toNat*f.size) (i.toNat*f.size+f.size)))
    |_=>False
   |none=>False
  |_,_,_=>False
 |.slice t x lo hi none=>match P.underlying t,ρ x with
  |some (.slice e),.slice p l c=>
   match(match lo with|some x=>ρ x|none=>aa 0),(match hi with|some x=>ρ x|none=>aa (l:Int)) with
   |.int _ a,.int _ b=>match P.info? e with|some f=>fD p c f.size a b λp l c=>K (.slice p l c)|none=>False
   |_,_=>False
  |some (.array n e),.pointer (some a)=>
   match(match lo with|some x=>ρ x|none=>aa 0),(match hi with|some x=>ρ x|none=>aa (n:Int)) with
   |.int _ b,.int _ d=>match P.info? e with|some f=>fD (some a) n f.size b d λp l c=>K (.slice p l c)|none=>False
   |_,_=>False
  |_,_=>still P (execOp ρ o) (vv K)
 |.slice t x lo (some hi) (some mx)=>match P.underlying t,ρ x with
  |some (.slice e),.slice p l c=>
   match(match lo with|some x=>ρ x|none=>aa 0),ρ hi,ρ mx with
   |.int _ a,.int _ b,.int _ d=>match P.info? e with|some f=>Nd p c f.size a b d λp l c=>K (.slice p l c)|none=>False
   |_,_,_=>False
  |_,_=>False
 |.field t x i=>match P.underlying t,ρ x with
  |some (.struct fs),.agg vs=>match fs[i]? with
   |some f=>match lv P f.type with
    |.int k=>wL k vs f.offset λn=>K (.int k n)
    |.bool=>UN vs f.offset λb=>K (.bool b)
    |.ptr=>UO vs f.offset λp=>K (.pointer p)
    |.slice=>H8 vs f.offset λp l c=>K (.slice p l c)
    |.str=>UP vs f.offset λs=>K (.string s)
    |.agg=>match P.info? f.type with|some g=>K (.agg (vs.extract f.offset (f.offset+g.size)))|none=>False
    |.map=>Nc vs f.offset K
    |.any=>match P.underlying f.type with|some _=>Nc vs f.offset K|none=>False
    |.s0=>False
    |.func=>False
   |none=>False
  |_,_=>False
 |.build t parts=>match P.underlying t with
  |some (.struct fs)=>match placesOf P fs.toList 0,(P.info? t).bind (·.zero) with
   |some ps,some (.agg z)=>if(ps.map (·.2)).sum=z.size then zW ps (λvs=>K (.agg vs)) (parts.toList.map λ(i,x)=>(i,ρ x)) (ps.map λ(o,n)=>z.extract o (o+n)) else False
   |_,_=>False
  |some (.array n e)=>match P.info? e,(P.info? t).bind (·.zero) with
   |some g,some (.agg z)=>if n*g.size=z.size then zW (pY n g.size) (λvs=>K (.agg vs)) (parts.toList.map λ(i,x)=>(i,ρ x)) ((pY n g.size).map λ(o,m)=>z.extract o (o+m)) else False
   |_,_=>False
  |_=>Sem.pw P (execOp ρ o) (vv K)
 |_=>Sem.pw P (execOp ρ o) (vv K)
theorem U2 {P:Program} {s:Sem Next} {K:Value->Prop} (h:still P s (vv K)):∃v,K v/\∀w,s.run P w=.ok (.value v) w:=by obtain⟨n,hr,hk⟩:=h;cases n<;>simp only[vv] at hk;exact⟨_,hk,hr⟩
theorem EO {P:Program} {s:Sem Next} {K:Value->Prop} (h:Sem.pw P s (vv K)):∃v,K v/\∀w,s.run P w=.ok (.value v) w:=by obtain⟨n,hk,hr⟩:=UX h;cases n<;>simp only[vv] at hk;exact⟨_,hk,hr⟩
theorem Ij {b:Bool} {X Y:Prop} (h:br b X Y):(b=true/\X)\/(b=false/\Y):=by
 cases b
 .exact .inr ⟨rfl,h⟩
 .exact .inl ⟨rfl,h⟩
theorem U3 {P:Program} {op:BinOp} {xt:TypeId} {x y:Operand} {vx vy:Value} {K:Value->Prop} {D:Prop} (hD:D->∃v,K v/\∀w,(do eqGuard op xt x y vx vy;binOp op xt vx vy:Sem Value).run P w=.ok v w) (h:Ii P op xt vx vy K D):∃v,K v/\∀w,(do eqGuard op xt x y vx vy;binOp op xt vx vy:Sem Value).run P w=.ok v w:=by
 unfold Ii at h;split at h<;>try exact hD h
 all_goals (split at h<;>try exact hD h)
 all_goals first
  |split at h
   .rename_i hk;subst hk;first
     |(refine⟨_,h,λw=> ?_⟩;first|(simp[eqGuard,binOp,Op.intArith];done)|(simp[eqGuard,binOp,Op.intBits,gr];done))
     |(refine⟨_,h.2,λw=> ?_⟩;simp[eqGuard,binOp,Op.intDiv,h.1];done)
   .exact h.elim
  |split at h
   .rename_i hu;refine⟨_,h,λw=> ?_⟩;first
     |(simp[eqGuard,binOp,UY hu];done)
     |(simp[eqGuard,binOp,UZ hu];done)
     |(simp[eqGuard,binOp,U0 hu];done)
     |(simp[eqGuard,binOp,U1 hu];done)
   .exact h.elim
  |split at h
   .rename_i hu;obtain⟨b,hr,hk⟩:=h;refine⟨_,hk,λw=> ?_⟩;simp[eqGuard,binOp,hu,program,Sem.run,hr]
   .exact h.elim
  |(refine⟨_,h.2,λw=> ?_⟩;simp[eqGuard,binOp,Op.shift,h.1];done)
theorem na {P:Program} {e:TypeId} {f:TypeInfo} (h:P.info? e=some f) (w:World):(sizeOf e).run P w=.ok f.size w:=by simp[sizeOf,typeInfo,h]
theorem Ng {P:Program} {t:TypeId} {d:TypeDesc} (h:P.underlying t=some d) (hs:lv P t≠.agg) (w:World):(isAgg t).run P w=.ok false w:=by
 have hb:(match d with|.struct _|.array _ _=>true|_=>false)=false:=by unfold lv at hs;rw[h] at hs;cases d<;>simp_all
 simp only[isAgg,Sem.run_bind,run_underlying h,Result.andThen_ok];cases d<;>simp_all
theorem Cn {P:Program} {t:TypeId} (hs:lv P t=.agg) (w:World):(isAgg t).run P w=.ok true w:=by
 unfold lv at hs;split at hs<;>try cases hs
 .rename_i h;simp[isAgg,run_underlying h]
 .rename_i h;simp[isAgg,run_underlying h]
theorem pZ {P:Program} {t:TypeId} (hs:lv P t≠.any):∃d,P.underlying t=some d:=by
 cases h:P.underlying t with
 |none=>simp[lv,h] at hs
 |some d=>exact⟨d,rfl⟩
theorem qa {P:Program} {t:TypeId} {d:TypeDesc} (h:P.underlying t=some d) (hs:lv P t≠.agg) {cs:Array Value} {o:Nat} {v:Value} (hv:cs[o]?=some v) (w:World): (part t cs o).run P w=.ok v w:=by simp[part,Ng h hs,hv]
theorem wM {P:Program} {ρ:Operand->Value} {o:Oper} {t:TypeId} {x:Operand} {i:Nat} {fs:Array Field} {vs:Array Value} {f:Field} {v:Value} (ho:o.op=.field t x i) (hu:P.underlying t=some (.struct fs)) (hx:ρ x=.agg vs) (hf:fs[i]?=some f) (hp:∀w,(part f.type vs f.offset).run P w=.ok v w) (w:World): (execOp ρ o).run P w=.ok (.value v) w:=by simp[execOp,ho,Instr.field,run_underlying hu,hf,hx,asAgg,hp]
theorem U4 {P:Program} {o:Oper} {ρ:Operand->Value} {K:Value->Prop} {t:TypeId} {x:Operand} {i:Nat} (ho:o.op=.field t x i) (h:oC P o ρ K): ∃v,K v/\∀w,(execOp ρ o).run P w=.ok (.value v) w:=by
 unfold oC at h;simp only[ho] at h;split at h<;>try exact h.elim
 rename_i fs vs hu hx;split at h<;>try exact h.elim
 rename_i f hf;split at h
 .rename_i k hs;obtain⟨d,hd⟩:=pZ (P:=P) (t:=f.type) (by rw[hs];simp);obtain⟨n,hn,hk⟩:=h;exact⟨_,hk,wM ho hu hx hf (qa hd (by rw[hs];simp) hn)⟩
 .rename_i hs;obtain⟨d,hd⟩:=pZ (P:=P) (t:=f.type) (by rw[hs];simp);obtain⟨n,hn,hk⟩:=h;exact⟨_,hk,wM ho hu hx hf (qa hd (by rw[hs];simp) hn)⟩
 .rename_i hs;obtain⟨d,hd⟩:=pZ (P:=P) (t:=f.type) (by rw[hs];simp);obtain⟨n,hn,hk⟩:=h;exact⟨_,hk,wM ho hu hx hf (qa hd (by rw[hs];simp) hn)⟩
 .rename_i hs;obtain⟨d,hd⟩:=pZ (P:=P) (t:=f.type) (by rw[hs];simp);obtain⟨p,l,c,hn,hk⟩:=h;exact⟨_,hk,wM ho hu hx hf (qa hd (by rw[hs];simp) hn)⟩
 .rename_i hs;obtain⟨d,hd⟩:=pZ (P:=P) (t:=f.type) (by rw[hs];simp);obtain⟨n,hn,hk⟩:=h;exact⟨_,hk,wM ho hu hx hf (qa hd (by rw[hs];simp) hn)⟩
 .rename_i hs;split at h<;>try exact h.elim
  rename_i g hg;exact⟨_,h,wM ho hu hx hf λw=>by simp[part,Cn hs,na hg]⟩
 .rename_i hs;obtain⟨d,hd⟩:=pZ (P:=P) (t:=f.type) (by rw[hs];simp);obtain⟨n,hn,hk⟩:=h;exact⟨_,hk,wM ho hu hx hf (qa hd (by rw[hs];simp) hn)⟩
 .rename_i hs;split at h<;>try exact h.elim
  rename_i d hd;obtain⟨n,hn,hk⟩:=h;exact⟨_,hk,wM ho hu hx hf (qa hd (by rw[hs];simp) hn)⟩
 .exact h.elim
 .exact h.elim
theorem U5 {P:Program} {o:Oper} {ρ:Operand->Value} {K:Value->Prop} {t:TypeId} {x i:Operand} (ho:o.op=.indexAddr t x i) (h:oC P o ρ K): ∃v,K v/\∀w,(execOp ρ o).run P w=.ok (.value v) w:=by
 unfold oC at h;simp only[ho] at h;split at h<;>try exact h.elim
 .rename_i e p l c k n hu hx hi;split at h<;>try exact h.elim
  rename_i f hf;unfold ba at h;split at h<;>try exact h.elim
  rename_i a;exact⟨_,h.2,λw=>by simp[execOp,ho,Instr.indexAt,hx,hi,asIntOf,run_underlying hu,h.1,na hf]⟩
 .rename_i m e a k n hu hx hi;split at h<;>try exact h.elim
  rename_i f hf;exact⟨_,h.2,λw=>by simp[execOp,ho,Instr.indexAt,Instr.sureAddr,hx,hi,asIntOf,run_underlying hu,h.1.1,h.1.2,na hf]⟩
theorem vw {P:Program} {k:IntKind} {i:Int} {y:Nat} {code:BoundsCode} (h0:0<=i) (h1:i<=y) (w:World): (Instr.sliceBound (.int k i) y code).run P w=.ok i.toNat w:=by simp[Instr.sliceBound,asIntOf,h0,h1]
theorem Nh {P:Program} {b:Bool} {l c:Nat} {lo hi:Option Value} {ka kb:IntKind} {x y:Int} (mN:(match lo with|some v=>v|none=>aa 0)=.int ka x) (qV:(match hi with|some v=>v|none=>aa (l:Int))=.int kb y) (h0:0<=x) (h1:x<=y) (h2:y<=(c:Int)) (w:World):(Instr.sliceBounds b l c lo hi none).run P w=.ok (x.toNat,y.toNat,c) w:=by
 have e:(y.toNat:Int)=y:=by omega
 cases lo with
 |none=>
  injection mN with _ hx
  subst hx;cases hi with
  |none=>
   injection qV with _ hy
   subst hy;simp[Instr.sliceBounds]
  |some v=>simp only at qV;subst qV;cases b<;>simp[Instr.sliceBounds,vw h1 h2]
 |some u=>
  simp only at mN;subst mN;cases hi with
  |none=>
   injection qV with _ hy
   subst hy;simp[Instr.sliceBounds,vw h0 (y:=l) (by omega)]
  |some v=>simp only at qV;subst qV;cases b<;>simp[Instr.sliceBounds,vw (show(0:Int)<=y by omega) h2,vw h0 (y:=y.toNat) (by omega)]
theorem U6 {P:Program} {o:Oper} {ρ:Operand->Value} {K:Value->Prop} {t:TypeId} {x:Operand} {lo hi:Option Operand} (ho:o.op=.slice t x lo hi none) (h:oC P o ρ K): ∃v,K v/\∀w,(execOp ρ o).run P w=.ok (.value v) w:=by
 unfold oC at h;simp only[ho] at h;split at h
 .rename_i e p l c hu hx;split at h<;>try exact h.elim
  rename_i ka a kb b mN qV;split at h<;>try exact h.elim
  rename_i f hf;obtain⟨⟨h0,h1,h2⟩,h⟩:=h;refine⟨_,h,λw=> ?_⟩;have hb:=Nh (P:=P) (b:=true) (l:=l) (c:=c) (lo:=lo.map ρ) (hi:=hi.map ρ) (by cases lo<;>exact mN) (by cases hi<;>exact qV) h0 h1 h2;simp[execOp,ho,Instr.sliceAt,Instr.slice,hx,run_underlying hu,na hf,hb]
 .rename_i m e a hu hx;split at h<;>try exact h.elim
  rename_i ka x' kb y' mN qV;split at h<;>try exact h.elim
  rename_i f hf;obtain⟨⟨h0,h1,h2⟩,h⟩:=h;refine⟨_,h,λw=> ?_⟩;have hb:=Nh (P:=P) (b:=false) (l:=m) (c:=m) (lo:=lo.map ρ) (hi:=hi.map ρ) (by cases lo<;>exact mN) (by cases hi<;>exact qV) h0 h1 h2;by_cases hm:m=x'.toNat
  .simp[execOp,ho,Instr.sliceAt,Instr.sureAddr,hx,run_underlying hu,na hf,hb,<-hm]
  .simp[execOp,ho,Instr.sliceAt,Instr.sureAddr,hx,run_underlying hu,na hf,hb,hm]
 .exact U2 h
theorem U7 {P:Program} {o:Oper} {ρ:Operand->Value} {K:Value->Prop} {t:TypeId} {x hi mx:Operand} {lo:Option Operand} (ho:o.op=.slice t x lo (some hi) (some mx)) (h:oC P o ρ K): ∃v,K v/\∀w,(execOp ρ o).run P w=.ok (.value v) w:=by
 unfold oC at h;simp only[ho] at h;split at h<;>try exact h.elim
 rename_i e p l c hu hx;split at h<;>try exact h.elim
 rename_i ka a kb b kd d mN qV Ni;split at h<;>try exact h.elim
 rename_i f hf;obtain⟨⟨h0,h1,h2,h3⟩,h⟩:=h;refine⟨_,h,λw=> ?_⟩;have hb:(Instr.sliceBounds true l c (lo.map ρ) (some (ρ hi)) (some (ρ mx))).run P w=.ok (a.toNat,b.toNat,d.toNat) w:=by
  cases lo with
  |none=>
   injection mN with _ ha
   subst ha;simp[Instr.sliceBounds,qV,Ni,vw (show(0:Int)<=d by omega) h3,vw (show(0:Int)<=b by omega) (y:=d.toNat) (by omega)]
  |some u=>simp only at mN;simp[Instr.sliceBounds,mN,qV,Ni,vw (show(0:Int)<=d by omega) h3,vw (show(0:Int)<=b by omega) (y:=d.toNat) (by omega),vw h0 (y:=b.toNat) (by omega)]
 simp[execOp,ho,Instr.sliceAt,Instr.slice,hx,run_underlying hu,na hf,hb]
theorem U8 {P:Program} {o:Oper} {ρ:Operand->Value} {K:Value->Prop} {t:TypeId} {x i:Operand} (ho:o.op=.index t x i) (h:oC P o ρ K): ∃v,K v/\∀w,(execOp ρ o).run P w=.ok (.value v) w:=by
 unfold oC at h;simp only[ho] at h;split at h
 .rename_i s k n hu hx hi;obtain⟨h0,b,hb,hk⟩:=h;exact⟨_,hk,λw=>by simp[execOp,ho,Instr.index,hx,hi,asIntOf,run_underlying hu,h0,hb]⟩
 .rename_i m e vs k n hu hx hi;split at h<;>try exact h.elim
  rename_i f hf;split at h<;>try exact h.elim
  .rename_i kk hs;obtain⟨⟨h0,h1⟩,b,hb,hk⟩:=h;obtain⟨d,hd⟩:=pZ (P:=P) (t:=e) (by rw[hs];simp);have hp:=qa hd (by rw[hs];simp) hb;exact⟨_,hk,λw=>by simp[execOp,ho,Instr.index,hx,hi,asIntOf,run_underlying hu,h0,h1,na hf,hp]⟩
  .rename_i hs;obtain⟨⟨h0,h1⟩,hk⟩:=h;exact⟨_,hk,λw=>by simp[execOp,ho,Instr.index,hx,hi,asIntOf,run_underlying hu,h0,h1,na hf,part,Cn hs]⟩
 .exact h.elim
theorem U9 (off:Nat):∀(l:List Value) (k:Nat) (acc:Array Value),off+k+l.length<=acc.size-> (l.zipIdx k).foldl (λcs (c,j)=>cs.setIfInBounds (off+j) c) acc=(acc.toList.take (off+k)++l++acc.toList.drop (off+k+l.length)).toArray:=by
 intro l;induction l with
 |nil=>intro k acc _;simp
 |cons x l ih=>
  intro k acc hk;simp only[iB] at hk;simp only[List.zipIdx_cons,o0];rw[ih (k+1) _ (by simp;omega)];apply cT;simp only[rZ,iy];apply qQ;intro i;simp only[List.getElem?_append,vp,qP,fB,List.length_set,pW,jR,iB,List.getElem?_cons,sc];have h1:min (off+(k+1)) acc.size=off+(k+1):=by omega
  have h2:min (off+k) acc.size=off+k:=by omega
  simp only[h1,h2];rcases Nat.lt_trichotomy i (off+k) with h|h|h
  .simp[h,show i<off+(k+1) by omega,show off+k≠i by omega]
  .subst h;simp[show off+k<acc.size by omega]
  .have e1:¬i<off+(k+1):=by omega
   have e2:¬i<off+k:=by omega
   simp only[e1,e2,if_false];by_cases h3:i- (off+(k+1))<l.length
   .simp[h3,show i- (off+k)<l.length+1 by omega,show i- (off+k)- 1=i- (off+(k+1)) by omega,show i- (off+k)≠0 by omega]
   .have e3:¬i- (off+k)<l.length+1:=by omega
    simp only[h3,e3,if_false];have e4:off+(k+1)+l.length+(i- (off+(k+1))- l.length)=off+k+(l.length+1)+(i- (off+k)- (l.length+1)):=by omega
    rw[e4,if_neg (by omega)]
theorem Nj:∀(dS:List (List Value)) (i:Nat) (s v:List Value),dS[i]?=some s-> dS.flatten.take ((dS.take i).map List.length).sum++v++dS.flatten.drop (((dS.take i).map List.length).sum+s.length)=(dS.set i v).flatten
 |[],i,s,v,h=>by simp at h
 |x::dS,0,s,v,h=>by simp only[B3,Option.some.injEq] at h;subst h;simp
 |x::dS,i+1,s,v,h=>by
  simp only[EB] at h;have ih:=Nj dS i s v h;simp only[Ca,jo,zT,List.flatten_cons,zO];rw[<-ih,wI,ub];have e1:x.length+((dS.take i).map List.length).sum- x.length=((dS.take i).map List.length).sum:=by omega
  have e2:x.length+((dS.take i).map List.length).sum+s.length- x.length=((dS.take i).map List.length).sum+s.length:=by omega
  rw[e1,e2,eW (by omega),List.drop_eq_nil_of_le (as:=x) (by omega)];simp
theorem Co (dS:List (Array Value)):(dS.foldl (·++·) #[]).toList=(dS.map Array.toList).flatten:=by
 have:∀(dS:List (Array Value)) (acc:Array Value),(dS.foldl (·++·) acc).toList=acc.toList++(dS.map Array.toList).flatten:=by
  intro dS;induction dS with
  |nil=>simp
  |cons s dS ih=>intro acc;simp[ih]
 simpa using this dS #[]
def EP (places:List (Nat×Nat)) (dS:List (Array Value)):Prop:=
 dS.map Array.size=places.map (·.2)/\∀i o n,places[i]?=some (o,n)->o=((places.take i).map (·.2)).sum
theorem Nk {P:Program}:∀(fs:List Field) (o:Nat) (ps:List (Nat×Nat)),placesOf P fs o=some ps-> (∀(i q n:Nat),ps[i]?=some (q,n)->q=o+((ps.take i).map (·.2)).sum)/\∀(i:Nat) (f:Field),fs[i]?=some f->∃g:TypeInfo,P.info? f.type=some g/\ps[i]?=some (f.offset,g.size)
 |[],o,ps,h=>by simp[placesOf] at h;subst h;simp
 |f::fs,o,ps,h=>by
  unfold placesOf at h;split at h<;>try cases h
  rename_i g hg;split at h<;>try cases h
  rename_i ho;cases hp:placesOf P fs (o+g.size) with
  |none=>rw[hp] at h;cases h
  |some qs=>
   rw[hp] at h;simp only[qR,Option.some.injEq] at h;subst h;obtain⟨h1,h2⟩:=Nk fs _ qs hp;constructor
   .intro i q n hi;cases i with
    |zero=>simp at hi;simp[hi.1.symm]
    |succ i=>simp only[EB] at hi;have:=h1 i q n hi;simp only[Ca,jo,zT];omega
   .intro i f' hi;cases i with
    |zero=>simp at hi;subst hi;exact⟨g,hg,by simp[ho]⟩
    |succ i=>simpa using h2 i f' (by simpa using hi)
theorem Nl {places:List (Nat×Nat)} {K:Array Value->Prop} {place:Nat->Option (Nat×Nat)} (s4:∀i p,places[i]?=some p->place i=some p):∀(parts:List (Nat×Value)) (dS:List (Array Value)), EP places dS->zW places K parts dS->∃vs,K vs/\Instr.fill place (dS.foldl (·++·) #[]) parts=some vs:=by
 intro parts;induction parts with
 |nil=>intro dS _ h;exact⟨_,h,rfl⟩
 |cons p parts ih=>
  obtain⟨i,v⟩:=p;intro dS ht h;unfold zW at h;split at h<;>try exact h.elim
  rename_i o n hp;have Va:∃s,dS[i]?=some s/\s.size=n:=by
   have h1:=congrArg (λl=>l[i]?) ht.1;simp only[eZ,hp,qR] at h1;cases hs:dS[i]? with
   |none=>rw[hs] at h1;cases h1
   |some s=>rw[hs] at h1;simp at h1;exact⟨s,rfl,h1⟩
  obtain⟨s,hs,Nm⟩:=Va;have z7:∀i,((dS.take i).map Array.size).sum=((places.take i).map (·.2)).sum:=by intro i;rw[wJ,wJ,ht.1]
  have ho:=ht.2 i o n hp;have step:∀(vs:Array Value),vs.size=n->vs.toList=v.cells.toList->Instr.fill place (dS.foldl (·++·) #[]) ((i,v)::parts)=Instr.fill place ((dS.set i vs).foldl (·++·) #[]) parts:=by
   intro vs s5 Vb;have dT:v.cells=vs:=(cT Vb).symm;have eB:o+n<=(dS.foldl (·++·) #[]).size:=by
    rw[<-pW,Co,List.length_flatten,lq];rw[ho,<-z7 i];have e:(List.map (List.length∘Array.toList) dS)=dS.map Array.size:=by apply yj;intro x _;simp
    rw[e];have hi:i<dS.length:=(ct.1 hs).1;conv=>rhs;rw[<-mK i dS]
    rw[nF,List.sum_append];have hd:dS.drop i=s::dS.drop (i+1):=by rw[ll hi,(ct.1 hs).2]
    rw[hd,jo,zT,Nm];omega
   simp only[Instr.fill,s4 _ _ hp];split
   .rename_i hc;simp only[Bool.or_eq_true,decide_eq_true_eq] at hc;rcases hc with hc|hc
    .exact absurd (by rw[dT,s5]) hc
    .rw[dT,s5] at hc;omega
   congr 1;apply cT;have hz:v.cells.zipIdx.foldl (λcs (c,j)=>cs.setIfInBounds (o+j) c) (dS.foldl (·++·) #[])=(vs.toList.zipIdx 0).foldl (λcs (c,j)=>cs.setIfInBounds (o+j) c) (dS.foldl (·++·) #[]):=by rw[dT,<-Array.foldl_toList];simp
   refine(congrArg Array.toList hz).trans ?_;rw[U9 o vs.toList 0 _ (by simp[s5];omega)];simp only[sZ,pW,s5];rw[Co,Co,wK];have:=Nj (dS.map Array.toList) i s.toList vs.toList (by simp[hs]);rw[<-this];have e2:((List.take i (List.map Array.toList dS)).map List.length).sum=o:=by rw[<-wJ,lq,ho,<-z7 i];congr 1
   rw[e2,pW,Nm]
  have Ik:∀(vs:Array Value),vs.size=n->EP places (dS.set i vs):=by
   intro vs s5;refine⟨?_,ht.2⟩;rw[wK,ht.1,s5];apply qQ;intro j;rw[jR];split
   .rename_i e;subst e;obtain⟨hi,Vc⟩:=ct.1 hp;simp[hi,Vc]
   .rfl
  split at h
  .rename_i vs;obtain⟨s5,h⟩:=h;rw[step vs s5 rfl];exact ih _ (Ik vs s5) h
  .exact h.elim
  .rename_i Nn No;split at h<;>try exact h.elim
   rename_i h1;subst h1;have hc:v.cells=#[v]:=by cases v<;>simp_all [Value.cells]
   rw[step #[v] (by simp) (by rw[hc])];exact ih _ (Ik #[v] (by simp)) h
theorem Il (z:Array Value):∀(ps:List (Nat×Nat)) (o:Nat),(∀i q n,ps[i]?=some (q,n)->q=o+((ps.take i).map (·.2)).sum)->o+(ps.map (·.2)).sum<=z.size-> ((ps.map λ(o,n)=>z.extract o (o+n)).map Array.toList).flatten=(z.toList.drop o).take (ps.map (·.2)).sum
 |[],o,_,_=>by simp
 |(q,n)::ps,o,h,hz=>by have h0:=h 0 q n rfl;simp only[qT,zU,List.sum_nil,sZ] at h0;subst h0;simp only[jo,zT] at hz ⊢;have ih:=Il z ps (q+n) (λi q' n' hi=>by have:=h (i+1) q' n' (by simpa using hi);simp only[Ca,jo,zT] at this;omega) (by omega);rw[List.flatten_cons,ih];simp only[pV];rw[oZ,show q+n- q=n by omega,show z.toList.drop (q+n)=(z.toList.drop q).drop n by rw[Cl],<-List.take_add]
theorem Vd {P:Program} {o:Oper} {ρ:Operand->Value} {K:Value->Prop} {t:TypeId} {parts:Array (Nat×Operand)} (ho:o.op=.build t parts) (h:oC P o ρ K): ∃v,K v/\∀w,(execOp ρ o).run P w=.ok (.value v) w:=by
 unfold oC at h;simp only[ho] at h;split at h
 .rename_i fs hu;split at h<;>try exact h.elim
  rename_i ps z s6 hz;split at h<;>try exact h.elim
  rename_i z7;obtain⟨g,hg,Im⟩:=bZ.1 hz;obtain⟨h1,h2⟩:=Nk fs.toList 0 ps s6;have iQ:fs.size=ps.length:=by
   have:∀(fs:List Field) (o:Nat) (ps:List (Nat×Nat)),placesOf P fs o=some ps->fs.length=ps.length:=by
    intro fs;induction fs with
    |nil=>intro o ps h;simp[placesOf] at h;subst h;rfl
    |cons f fs ih=>
     intro o ps h;unfold placesOf at h;split at h<;>try cases h
     split at h<;>try cases h
     rename_i g _ _;cases hp:placesOf P fs (o+g.size) with
     |none=>rw[hp] at h;cases h
     |some qs=>rw[hp] at h;simp only[qR,Option.some.injEq] at h;subst h;simp[ih _ _ hp]
   simpa using this _ _ _ s6
  have hT:EP ps (ps.map λ(o,n)=>z.extract o (o+n)):=by
   refine⟨?_,λi q n hi=>by simpa using h1 i q n hi⟩;rw[lq];apply yj;intro p hp;obtain⟨i,hi⟩:=sa.1 hp;obtain⟨q,n⟩:=p;have hq:=h1 i q n hi;have hle:q+n<=(ps.map (·.2)).sum:=by
    have aQ:i<ps.length:=(ct.1 hi).1;conv=>rhs;rw[<-mK i ps]
    rw[nF,List.sum_append,ll aQ,(ct.1 hi).2,jo,zT];omega
   simp only[Function.comp,Array.size_extract];omega
  have s4:∀(i:Nat) (p:Nat×Nat),ps[i]?=some p->((fs.toList.mapIdx λi f=>((f.offset,((P.info? f.type).map (·.size)).getD 0):Nat×Nat)).toArray)[i]?=some p:=by
   intro i p hi;have aQ:i<fs.size:=by rw[iQ];exact(ct.1 hi).1
   obtain⟨g',yo,he⟩:=h2 i fs[i] (by simp[aQ]);rw[hi] at he;simp only[kI,List.getElem?_mapIdx];simp[aQ,yo,he]
  obtain⟨vs,hk,hf⟩:=Nl (place:=λi=>((fs.toList.mapIdx λi f=>((f.offset,((P.info? f.type).map (·.size)).getD 0):Nat×Nat)).toArray)[i]?) s4 _ _ hT h;have ud:(ps.map λ(o,n)=>z.extract o (o+n)).foldl (·++·) #[]=z:=by apply cT;rw[Co,Il z ps 0 h1 (by omega),z7,m9,<-pW,j4]
  rw[ud] at hf;refine⟨_,hk,λw=> ?_⟩;have hm:∀w,(fs.mapM λf=>(do pure (f.offset,<-sizeOf f.type):Sem (Nat×Nat))).run P w=.ok (fs.toList.mapIdx λi f=>((f.offset,((P.info? f.type).map (·.size)).getD 0):Nat×Nat)).toArray w:=by
   intro w;have hl:∀(l:List Field),(∀f∈l,∃g,P.info? f.type=some g)->(l.mapM λf=>(do pure (f.offset,<-sizeOf f.type):Sem (Nat×Nat))).run P w=.ok (l.map λf=>((f.offset,((P.info? f.type).map (·.size)).getD 0):Nat×Nat)) w:=by
    intro l;induction l with
    |nil=>intro _;simp
    |cons f l ih=>intro hf;obtain⟨g,hg⟩:=hf f (.head _);have ER:=ih (λf sg=>hf f (.tail _ sg));simp only[bind_pure_comp] at ER;simp[List.mapM_cons,na hg,ER,hg]
   have e:(fs.mapM λf=>(do pure (f.offset,<-sizeOf f.type):Sem (Nat×Nat)))=List.toArray<$>(fs.toList.mapM λf=>(do pure (f.offset,<-sizeOf f.type):Sem (Nat×Nat))):=by rw[Array.mapM_eq_mapM_toList]
   rw[e];have:=hl fs.toList (λf hf=>by obtain⟨i,hi⟩:=sa.1 hf;obtain⟨g,hg,_⟩:=h2 i f hi;exact⟨g,hg⟩);simp only[map_eq_pure_bind,Sem.run_bind,this,Result.andThen_ok,Sem.run_pure];congr 2;apply qQ;intro i;simp
  simp only[execOp,ho,Instr.build,Sem.run_bind];have Io:(zeroValue t).run P w=.ok (.agg z) w:=by simp[zeroValue,typeInfo,hg,Im]
  rw[Io];simp only[Result.andThen_ok,run_underlying hu,Sem.run_bind];rw[hm];have Cp:(parts.map λx=>(x.1,ρ x.2)).toList=parts.toList.map λx=>(x.1,ρ x.2):=by simp
  simp only[Result.andThen_ok,Value.cells];rw[Cp,hf];simp
 .rename_i n e hu;split at h<;>try exact h.elim
  rename_i ge z bW hz;split at h<;>try exact h.elim
  rename_i z7;obtain⟨g,hg,Im⟩:=bZ.1 hz;have s6:∀i q m,(pY n ge.size)[i]?=some (q,m)->q=i*ge.size/\m=ge.size/\i<n:=by intro i q m hi;unfold pY at hi;rw[eZ] at hi;obtain⟨j,hj,e⟩:=dd.1 hi;have aQ:=(ct.1 hj).1;rw[List.length_range] at aQ;rw[zM aQ] at hj;cases hj;cases e;exact⟨rfl,rfl,aQ⟩
  have wO:(pY n ge.size).map (·.2)=List.replicate n ge.size:=by
   unfold pY;rw[lq];apply List.ext_getElem
   .simp
   .intro i h1 h2;simp
  have eB:(pY n ge.size).length=n:=by simp[pY]
  have h1:∀i q m,(pY n ge.size)[i]?=some (q,m)->q=0+(((pY n ge.size).take i).map (·.2)).sum:=by
   intro i q m hi;obtain⟨rfl,_,aQ⟩:=s6 i q m hi;rw[wJ,wO,List.take_replicate,List.sum_replicate_nat];have:min i n=i:=by omega
   rw[this];simp
  have Ve:((pY n ge.size).map (·.2)).sum=z.size:=by rw[wO,List.sum_replicate_nat];simpa using z7
  have hT:EP (pY n ge.size) ((pY n ge.size).map λ(o,n)=>z.extract o (o+n)):=by
   refine⟨?_,λi q m hi=>by simpa using h1 i q m hi⟩;rw[lq];apply yj;intro p hp;obtain⟨i,hi⟩:=sa.1 hp;obtain⟨q,m⟩:=p;obtain⟨rfl,rfl,aQ⟩:=s6 i q m hi;have hle:i*ge.size+ge.size<=n*ge.size:=by rw[<-Nat.succ_mul];exact pT _ aQ
   simp only[Function.comp,Array.size_extract];omega
  obtain⟨vs,hk,hf⟩:=Nl (place:=λi=>some (i*ge.size,ge.size)) (λi p hi=>by obtain⟨q,m⟩:=p;obtain⟨rfl,rfl,_⟩:=s6 i q m hi;rfl) _ _ hT h;have ud:((pY n ge.size).map λ(o,n)=>z.extract o (o+n)).foldl (·++·) #[]=z:=by apply cT;rw[Co,Il z _ 0 h1 (by omega),Ve,m9,<-pW,j4]
  rw[ud] at hf;refine⟨_,hk,λw=> ?_⟩;simp only[execOp,ho,Instr.build,Sem.run_bind];have Io:(zeroValue t).run P w=.ok (.agg z) w:=by simp[zeroValue,typeInfo,hg,Im]
  rw[Io];simp only[Result.andThen_ok,run_underlying hu,Sem.run_bind];rw[na bW];have Cp:(parts.map λx=>(x.1,ρ x.2)).toList=parts.toList.map λx=>(x.1,ρ x.2):=by simp
  simp only[Result.andThen_ok,Value.cells];rw[Cp,hf];simp
 .exact EO h
theorem Np {P:Program} {o:Oper} {ρ:Operand->Value} {K:Value->Prop} (h:oC P o ρ K):∃v,K v/\∀w,(execOp ρ o).run P w=.ok (.value v) w:=by
 have h':=h;unfold oC at h;split at h
 .rename_i x ho;exact⟨_,h,λw=>by simp[execOp,ho]⟩
 .rename_i x ho;exact⟨_,h,λw=>by simp[execOp,ho]⟩
 .rename_i c a b ho;split at h<;>try exact h.elim
  rename_i t hc;rcases Ij h with⟨rfl,h⟩|⟨rfl,h⟩<;>exact⟨_,h,λw=>by simp[execOp,ho,hc,asBool]⟩
 .rename_i x ho;split at h
  .rename_i p hx;unfold nn at h;split at h<;>try exact h.elim
   exact⟨_,h,λw=>by simp[execOp,ho,hx]⟩
  .rename_i f a b hx;unfold Cm at h;split at h<;>first|exact h.elim|exact⟨_,h,λw=>by simp[execOp,ho,hx]⟩
  .exact h.elim
 .rename_i op xt x y yt ho;have hE:∀{w v},(do eqGuard op xt x y (ρ x) (ρ y);binOp op xt (ρ x) (ρ y):Sem Value).run P w=.ok v w->(execOp ρ o).run P w=.ok (.value v) w:=by
   intro w v hv;simp only[execOp,ho,Sem.run_bind] at hv ⊢;revert hv;cases(eqGuard op xt x y (ρ x) (ρ y)).run P w with
   |ok u w1=>
    simp only[Result.andThen_ok];cases(binOp op xt (ρ x) (ρ y)).run P w1 with
    |ok u w2=>simp
    |halt=>simp
   |halt=>simp
  have hD:∀{D:Prop},(D->∃v,K v/\∀w,(execOp ρ o).run P w=.ok (.value v) w)->(D->∃v,K v/\∀w,(do eqGuard op xt x y (ρ x) (ρ y);binOp op xt (ρ x) (ρ y):Sem Value).run P w=.ok v w):=by
   intro D hD d;obtain⟨v,hk,hr⟩:=hD d;refine⟨v,hk,λw=> ?_⟩;have:=hr w;simp only[execOp,ho,Sem.run_bind] at this;simp only[Sem.run_bind];revert this;cases(eqGuard op xt x y (ρ x) (ρ y)).run P w with
   |ok u w1=>
    simp only[Result.andThen_ok];cases(binOp op xt (ρ x) (ρ y)).run P w1 with
    |ok u w2=>simp
    |halt=>simp
   |halt=>simp
  obtain⟨v,hk,hr⟩:=U3 (hD (λd=>EO d)) h;exact⟨v,hk,λw=>hE (hr w)⟩
 .rename_i src dst x ho;split at h
  .rename_i k0 n d k hx hs hu;exact⟨_,h,λw=>by simp[execOp,ho,convert,hx,run_underlying hu,run_underlying hs,Conv.intToInt]⟩
  .exact EO h
 .rename_i t x i ho;exact U5 ho h'
 .rename_i t x i ho;exact U8 ho h'
 .rename_i t x lo hi ho;exact U6 ho h'
 .rename_i t x lo hi mx ho;exact U7 ho h'
 .rename_i t x i ho;exact U4 ho h'
 .rename_i t parts ho;exact Vd ho h'
 .exact EO h
end Go.Sp
