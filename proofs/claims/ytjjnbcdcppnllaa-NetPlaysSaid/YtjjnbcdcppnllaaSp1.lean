/- A verified symbolic compile of the translated Go code into plain propositions: part 1: the words, and what each operation comes to. No conditions. -/
import Derived.WalkKit
import Derived.OrdersHeld
import Derived.Laws.AppendOwn
import Derived.Laws.OwnMore
import Derived.KernelRfl
set_option linter.unusedVariables false
set_option linter.unusedSimpArgs false
set_option maxRecDepth 100000
namespace Go.Sp
open Go.RowKit

/-! ### 1. Words -/
/-- A branch. -/
def br (b : Bool) (X Y : Prop) : Prop := match b with | true => X | false => Y
/-- A pointer that is not nil. -/
def nn (p : Option Addr) (K : Addr → Prop) : Prop := match p with | some a => K a | none => False
/-- A number of a kind, wrapped. -/
def arith (k : IntKind) (e : Int) (K : Int → Prop) : Prop := K (k.wrap e)
def quo (k : IntKind) (x y : Int) (K : Int → Prop) : Prop := y ≠ 0 ∧ K (k.wrap (x.tdiv y))
def rem (x y : Int) (K : Int → Prop) : Prop := y ≠ 0 ∧ K (x.tmod y)
def shl (k : IntKind) (x y : Int) (K : Int → Prop) : Prop := ¬ y < 0 ∧ K (k.wrap (x * 2 ^ (min y.toNat k.bits)))
def shr (k : IntKind) (x y : Int) (K : Int → Prop) : Prop := ¬ y < 0 ∧ K (x.fdiv (2 ^ (min y.toNat k.bits)))
def bitw (op : BinOp) (k : IntKind) (x y : Int) : Int :=
  match op with
  | .and => k.wrap (BitVec.ofInt k.bits x &&& BitVec.ofInt k.bits y).toNat
  | .or => k.wrap (BitVec.ofInt k.bits x ||| BitVec.ofInt k.bits y).toNat
  | .xor => k.wrap (BitVec.ofInt k.bits x ^^^ BitVec.ofInt k.bits y).toNat
  | .andNot => k.wrap (BitVec.ofInt k.bits x &&& ~~~ BitVec.ofInt k.bits y).toNat
  | _ => 0
/-- An element's address: of a slice. -/
def idx (p : Option Addr) (l : Nat) (i : Int) (sz : Nat) (K : Addr → Prop) : Prop :=
  match p with | some a => (0 ≤ i ∧ i < (l : Int)) ∧ K (a.add (i.toNat * sz)) | none => False
/-- Of an array in memory. -/
def idxA (a : Addr) (n : Nat) (i : Int) (sz : Nat) (K : Addr → Prop) : Prop := (0 ≤ i ∧ i < (n : Int)) ∧ K (a.add (i.toNat * sz))
/-- A byte of a string. -/
def strAt (s : ByteArray) (i : Int) (K : Int → Prop) : Prop := 0 ≤ i ∧ ∃ b : UInt8, s[i.toNat]? = some b ∧ K (b.toNat : Int)
/-- A cell of an aggregate. -/
def fldI (k : IntKind) (vs : Array Value) (o : Nat) (K : Int → Prop) : Prop := ∃ n, vs[o]? = some (.int k n) ∧ K n
def fldB (vs : Array Value) (o : Nat) (K : Bool → Prop) : Prop := ∃ b, vs[o]? = some (.bool b) ∧ K b
def fldP (vs : Array Value) (o : Nat) (K : Option Addr → Prop) : Prop := ∃ p, vs[o]? = some (.pointer p) ∧ K p
def fldS (vs : Array Value) (o : Nat) (K : Option Addr → Nat → Nat → Prop) : Prop := ∃ p l c, vs[o]? = some (.slice p l c) ∧ K p l c
def fldT (vs : Array Value) (o : Nat) (K : ByteArray → Prop) : Prop := ∃ s, vs[o]? = some (.string s) ∧ K s
def fldV (vs : Array Value) (o : Nat) (K : Value → Prop) : Prop := ∃ v, vs[o]? = some v ∧ K v
/-- A struct's parts, field by field. -/
def buildW (places : List (Nat × Nat)) (K : Array Value → Prop) : List (Nat × Value) → List (Array Value) → Prop
  | [], segs => K (segs.foldl (· ++ ·) #[])
  | (i, v) :: rest, segs => match places[i]? with
    | some (_, n) => match v with
      | .agg vs => vs.size = n ∧ buildW places K rest (segs.set i vs)
      | .tuple _ => False
      | v => if n = 1 then buildW places K rest (segs.set i #[v]) else False
    | none => False
/-- A load. -/
def ldI (k : IntKind) (a : Addr) (w : World) (K : Int → Prop) : Prop := ∃ n, w.cell? a = some (.int k n) ∧ K n
def ldB (a : Addr) (w : World) (K : Bool → Prop) : Prop := ∃ b, w.cell? a = some (.bool b) ∧ K b
def ldP (a : Addr) (w : World) (K : Option Addr → Prop) : Prop := ∃ p, w.cell? a = some (.pointer p) ∧ K p
def ldS (a : Addr) (w : World) (K : Option Addr → Nat → Nat → Prop) : Prop := ∃ p l c, w.cell? a = some (.slice p l c) ∧ K p l c
def ldT (a : Addr) (w : World) (K : ByteArray → Prop) : Prop := ∃ s, w.cell? a = some (.string s) ∧ K s
def ldM (a : Addr) (w : World) (K : Option Nat → Prop) : Prop := ∃ r, w.cell? a = some (.map r) ∧ K r
def ldF (a : Addr) (w : World) (K : Fn → Array Value → Array Value → Prop) : Prop := ∃ f b c, w.cell? a = some (.func f b c) ∧ K f b c
def ldV (a : Addr) (w : World) (K : Value → Prop) : Prop := ∃ v, w.cell? a = some v ∧ K v
def ldA (a : Addr) (n : Nat) (w : World) (K : Array Value → Prop) : Prop := ∃ vs : Array Value, vs.size = n ∧ (∀ i, i < n → w.cell? (a.add i) = vs[i]?) ∧ K vs
def cellsOf (a : Addr) (vs : Array Value) : List (Addr × Value) := vs.toList.zipIdx.map fun (v, i) => (a.add i, v)
/-- A store. -/
def st (a : Addr) (v : Value) (w : World) (K : World → Prop) : Prop := (∃ u, w.cell? a = some u) ∧ w.frozen? a = false ∧ K (w.setCell a v)
def stA (P : Program) (a : Addr) (n : Nat) (vs : Array Value) (w : World) (K : World → Prop) : Prop := vs.size = n ∧ ∃ w', (storeCells a vs.toList).run P w = .ok () w' ∧ K w'
/-- A new block of cells. -/
def new (cs : Array Value) (t : TypeId) (w : World) (K : Nat → World → Prop) : Prop := K w.heap.size (w.alloc (.cells cs t))
/-- Whatever an operation comes to. -/
def runs {α : Type} (P : Program) (s : Sem α) (w : World) (K : α → World → Prop) : Prop := ∃ v w', s.run P w = .ok v w' ∧ K v w'
/-- Whatever an operation comes to that leaves the world alone and does not look at it. -/
def still {α : Type} (P : Program) (s : Sem α) (K : α → Prop) : Prop := ∃ v, (∀ w, s.run P w = .ok v w) ∧ K v
def runsS (P : Program) (s : Sem Value) (w : World) (K : Option Addr → Nat → Nat → World → Prop) : Prop := ∃ p l c w', s.run P w = .ok (.slice p l c) w' ∧ K p l c w'
def runsT (P : Program) (s : Sem Value) (w : World) (K : ByteArray → World → Prop) : Prop := ∃ t w', s.run P w = .ok (.string t) w' ∧ K t w'
def runsI (k : IntKind) (P : Program) (s : Sem Value) (w : World) (K : Int → World → Prop) : Prop := ∃ n w', s.run P w = .ok (.int k n) w' ∧ K n w'
/-- Maps: a new one; a look-up; a store; a deletion; how many. -/
def newM (w : World) (K : Nat → World → Prop) : Prop := K w.heap.size (w.alloc (.map #[] 0))
def lookW (P : Program) (t : TypeId) (r : Option Nat) (i : Value) (ok : Bool) (w : World) (K : Value → Prop) : Prop := ∃ v, (Instr.lookup t (.map r) i ok).run P w = .ok v w ∧ K v
def setM (P : Program) (t : TypeId) (r : Option Nat) (k v : Value) (w : World) (K : World → Prop) : Prop := ∃ w', (Instr.mapUpdate t (.map r) k v).run P w = .ok () w' ∧ K w'
def delM (P : Program) (ts : Array TypeId) (ty : TypeId) (r : Option Nat) (k : Value) (w : World) (K : World → Prop) : Prop := ∃ w', (Builtin.delete_ ts ty #[.map r, k]).run P w = .ok (.tuple #[]) w' ∧ K w'
def lenM (P : Program) (ts : Array TypeId) (ty : TypeId) (r : Option Nat) (w : World) (K : Int → Prop) : Prop := ∃ n, (Builtin.len_ ts ty #[.map r]).run P w = .ok (.int .i64 n) w ∧ K n
/-- A slice of a slice. -/
def slc (p : Option Addr) (c : Nat) (sz : Nat) (lo hi : Int) (K : Option Addr → Nat → Nat → Prop) : Prop :=
  (0 ≤ lo ∧ lo ≤ hi ∧ hi ≤ (c : Int)) ∧ K (if c = lo.toNat then p else p.map (·.add (lo.toNat * sz))) (hi.toNat - lo.toNat) (c - lo.toNat)
/-- A slice of a slice, with a capacity. -/
def slc3 (p : Option Addr) (c : Nat) (sz : Nat) (lo hi mx : Int) (K : Option Addr → Nat → Nat → Prop) : Prop :=
  (0 ≤ lo ∧ lo ≤ hi ∧ hi ≤ mx ∧ mx ≤ (c : Int)) ∧ K (if mx.toNat = lo.toNat then p else p.map (·.add (lo.toNat * sz))) (hi.toNat - lo.toNat) (mx.toNat - lo.toNat)
/-- 'clear' of a slice. -/
def clrM (P : Program) (ts : Array TypeId) (ty : TypeId) (p : Option Addr) (l c : Nat) (w : World) (K : World → Prop) : Prop := ∃ w', (Builtin.clear_ ts ty #[.slice p l c]).run P w = .ok (.tuple #[]) w' ∧ K w'
/-- A call. -/
def call (P : Program) (f : FuncId) (args : Array Value) (w : World) (K : Value → World → Prop) : Prop :=
  Calls P f args w fun e w' => ∃ v, e = .returned v ∧ K v w'

/-- What a value is to be. -/
inductive Shape where
  | int (k : IntKind) | bool | ptr | slice | str | map | agg | any | adr | func
def exC : List Shape → (List Value → Prop) → Prop
  | [], K => K []
  | .int k :: s, K => ∃ n : Int, exC s fun vs => K (.int k n :: vs)
  | .bool :: s, K => ∃ b : Bool, exC s fun vs => K (.bool b :: vs)
  | .ptr :: s, K => ∃ p : Option Addr, exC s fun vs => K (.pointer p :: vs)
  | .slice :: s, K => ∃ (p : Option Addr) (l c : Nat), exC s fun vs => K (.slice p l c :: vs)
  | .str :: s, K => ∃ t : ByteArray, exC s fun vs => K (.string t :: vs)
  | .map :: s, K => ∃ r : Option Nat, exC s fun vs => K (.map r :: vs)
  | .agg :: s, K => ∃ a : Array Value, exC s fun vs => K (.agg a :: vs)
  | .any :: s, K => ∃ v : Value, exC s fun vs => K (v :: vs)
  | .adr :: s, K => ∃ a : Addr, exC s fun vs => K (.pointer (some a) :: vs)
  | .func :: s, K => ∃ (f : Fn) (a b : Array Value), exC s fun vs => K (.func f a b :: vs)
def asI (k : IntKind) (v : Value) (K : Int → Prop) : Prop := ∃ n, v = .int k n ∧ K n
def asB (v : Value) (K : Bool → Prop) : Prop := ∃ b, v = .bool b ∧ K b
def asP (v : Value) (K : Option Addr → Prop) : Prop := ∃ p, v = .pointer p ∧ K p
def asS (v : Value) (K : Option Addr → Nat → Nat → Prop) : Prop := ∃ p l c, v = .slice p l c ∧ K p l c
def asT (v : Value) (K : ByteArray → Prop) : Prop := ∃ s, v = .string s ∧ K s
def asM (v : Value) (K : Option Nat → Prop) : Prop := ∃ r, v = .map r ∧ K r
def asA (v : Value) (K : Array Value → Prop) : Prop := ∃ a, v = .agg a ∧ K a
def asF (v : Value) (K : Fn → Array Value → Array Value → Prop) : Prop := ∃ f a b, v = .func f a b ∧ K f a b
/-- A function value that is a function's, or a loop's yield. -/
def okFn (f : Fn) (X : Prop) : Prop := match f with | .func _ => X | .yield _ => X | _ => False
def as1 (s : Shape) (v : Value) (K : Value → Prop) : Prop :=
  match s with
  | .int k => asI k v fun n => K (.int k n)
  | .bool => asB v fun b => K (.bool b)
  | .ptr => asP v fun p => K (.pointer p)
  | .slice => asS v fun p l c => K (.slice p l c)
  | .str => asT v fun s => K (.string s)
  | .map => asM v fun r => K (.map r)
  | .agg => asA v fun a => K (.agg a)
  | .any => K v
  | .adr => ∃ a, v = .pointer (some a) ∧ K (.pointer (some a))
  | .func => asF v fun f a b => K (.func f a b)
theorem as1_sound {s : Shape} {v : Value} {K : Value → Prop} (h : as1 s v K) : K v := by
  cases s <;> simp only [as1] at h
  case int k => obtain ⟨_, rfl, h⟩ := h; exact h
  case bool => obtain ⟨_, rfl, h⟩ := h; exact h
  case ptr => obtain ⟨_, rfl, h⟩ := h; exact h
  case slice => obtain ⟨_, _, _, rfl, h⟩ := h; exact h
  case str => obtain ⟨_, rfl, h⟩ := h; exact h
  case map => obtain ⟨_, rfl, h⟩ := h; exact h
  case agg => obtain ⟨_, rfl, h⟩ := h; exact h
  case any => exact h
  case adr => obtain ⟨_, rfl, h⟩ := h; exact h
  case func => obtain ⟨_, _, _, rfl, h⟩ := h; exact h
/-- Several results. -/
def asN (s : List Shape) (v : Value) (K : List Value → Prop) : Prop := exC s fun vs => v = .tuple vs.toArray ∧ K vs
theorem exC_some {s : List Shape} {K : List Value → Prop} (h : exC s K) : ∃ vs, K vs := by
  induction s generalizing K with
  | nil => exact ⟨[], h⟩
  | cons x s ih =>
    cases x <;> simp only [exC] at h
    case slice => obtain ⟨_, _, _, h⟩ := h; obtain ⟨vs, h⟩ := ih h; exact ⟨_, h⟩
    case func => obtain ⟨_, _, _, h⟩ := h; obtain ⟨vs, h⟩ := ih h; exact ⟨_, h⟩
    all_goals (obtain ⟨_, h⟩ := h; obtain ⟨vs, h⟩ := ih h; exact ⟨_, h⟩)
theorem asN_sound {s : List Shape} {v : Value} {K : Value → Prop} (h : asN s v fun vs => K (.tuple vs.toArray)) : K v := by
  unfold asN at h
  obtain ⟨vs, e, h'⟩ := exC_some h
  rw [e]
  exact h'

/-! ### 2. The shape of a type's values -/
def shapeOf (P : Program) (t : TypeId) : Shape :=
  match P.underlying t with
  | some (.int k) => .int k
  | some .bool => .bool
  | some (.pointer _) => .ptr
  | some (.slice _) => .slice
  | some .string => .str
  | some (.map _ _) => .map
  | some (.struct _) => .agg
  | some (.array _ _) => .agg
  | some (.func ..) => .func
  | _ => .any
/-- A result of a call, by its type. -/
def asTy (P : Program) (t : TypeId) (v : Value) (K : Value → Prop) : Prop :=
  match P.underlying t with
  | some (.tuple ts) => asN (ts.toList.map (shapeOf P)) v fun vs => K (.tuple vs.toArray)
  | _ => as1 (shapeOf P t) v K
theorem asTy_sound {P : Program} {t : TypeId} {v : Value} {K : Value → Prop} (h : asTy P t v K) : K v := by
  unfold asTy at h
  split at h
  · exact asN_sound h
  · exact as1_sound h

/-! ### 3. Operations that look at temporaries alone -/
def Sem.pw {α : Type} (P : Program) : Sem α → (α → Prop) → Prop
  | .pure a, K => K a
  | .program k, K => Sem.pw P (k P) K
  | _, _ => False
theorem pw_sound {α : Type} {P : Program} {K : α → Prop} : ∀ {s : Sem α}, Sem.pw P s K → ∃ a, K a ∧ ∀ w, s.run P w = .ok a w := by
  intro s
  induction s with
  | pure a => exact fun h => ⟨a, h, fun _ => rfl⟩
  | program k ih => intro h; obtain ⟨a, ha, hr⟩ := ih P h; exact ⟨a, ha, fun w => by simpa [Sem.run] using hr w⟩
  | _ => intro h; exact h.elim

def valOf (K : Value → Prop) : Next → Prop
  | .value v => K v
  | _ => False

end Go.Sp
