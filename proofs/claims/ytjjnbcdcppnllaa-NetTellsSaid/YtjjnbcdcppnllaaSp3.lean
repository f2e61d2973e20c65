/- A verified symbolic compile of the translated Go code: part 3: loads, and operations that turn memory. No conditions. -/
import Derived.Test.YtjjnbcdcppnllaaSp2
import Derived.OrdersIn
import Derived.RangeFuncRecord
set_option linter.unusedVariables false
set_option linter.unusedSimpArgs false
set_option maxRecDepth 100000
namespace Go.Sp
open Go.RowKit

def opLoad (P : Program) (t : TypeId) (va : Value) (w : World) (K : Value → List (Addr × Value) → Prop) : Prop :=
  match va with
  | .pointer (some a) =>
    match shapeOf P t with
    | .int k => ldI k a w fun n => K (.int k n) [(a, .int k n)]
    | .bool => ldB a w fun n => K (.bool n) [(a, .bool n)]
    | .ptr => ldP a w fun n => K (.pointer n) [(a, .pointer n)]
    | .slice => ldS a w fun p l c => K (.slice p l c) [(a, .slice p l c)]
    | .str => ldT a w fun n => K (.string n) [(a, .string n)]
    | .map => ldM a w fun n => K (.map n) [(a, .map n)]
    | .agg => match P.info? t with | some i => ldA a i.size w fun vs => K (.agg vs) (cellsOf a vs) | none => False
    | .any => match P.underlying t with | some _ => ldV a w fun v => K v [(a, v)] | none => False
    | .adr => False
    | .func => ldF a w fun f b c => K (.func f b c) [(a, .func f b c)]
  | _ => False

theorem run_load {P : Program} {t : TypeId} {d : TypeDesc} (h : P.underlying t = some d) (hs : shapeOf P t ≠ .agg) {a : Addr} {v : Value} {w : World} (hv : w.cell? a = some v) :
    (Instr.loadAt t (.pointer (some a))).run P w = .ok v w := by
  simp [Instr.loadAt, Instr.sureAddr, loadVar, shapeOf_notagg h hs, load, Sem.run, hv]

theorem run_loadCellsFrom {P : Program} {a : Addr} {w : World} : ∀ (n i : Nat) (acc vs : Array Value), vs.size = n → (∀ j, j < n → w.cell? (a.add (i + j)) = vs[j]?) →
    (loadCellsFrom a i n acc).run P w = .ok (acc ++ vs) w := by
  intro n
  induction n with
  | zero =>
    intro i acc vs hn _
    have : vs = #[] := Array.eq_empty_of_size_eq_zero hn
    subst this
    simp [loadCellsFrom]
  | succ n ih =>
    intro i acc vs hn hc
    have h0 := hc 0 (by omega)
    simp only [Nat.add_zero] at h0
    have hv : vs[0]? = some (vs[0]'(by omega)) := by simp [hn]
    rw [hv] at h0
    have hr := ih (i + 1) (acc.push (vs[0]'(by omega))) (vs.extract 1 vs.size) (by simp; omega) (fun j hj => by
      have := hc (j + 1) (by omega)
      rw [show i + 1 + j = i + (j + 1) by omega, this]
      simp [Array.getElem?_extract, hn, hj, Nat.add_comm])
    simp only [loadCellsFrom, load, Sem.run_bind]
    simp only [Sem.run, h0, Result.andThen_ok]
    rw [hr]
    congr 1
    apply Array.ext'
    obtain ⟨l⟩ := vs
    cases l with
    | nil => simp at hn
    | cons x l => simp
theorem run_loadA {P : Program} {t : TypeId} {i : TypeInfo} (hs : shapeOf P t = .agg) (hi : P.info? t = some i) {a : Addr} {vs : Array Value} {w : World} (hn : vs.size = i.size)
    (hv : ∀ j, j < i.size → w.cell? (a.add j) = vs[j]?) : (Instr.loadAt t (.pointer (some a))).run P w = .ok (.agg vs) w := by
  have := run_loadCellsFrom (P := P) (a := a) (w := w) i.size 0 #[] vs hn (by simpa using hv)
  simp [Instr.loadAt, Instr.sureAddr, loadVar, shapeOf_agg hs, run_sizeOf' hi, loadCells, this]

theorem mem_cellsOf {a : Addr} {vs : Array Value} {w : World} : (∀ p ∈ cellsOf a vs, w.cell? p.1 = some p.2) ↔ ∀ j, j < vs.size → w.cell? (a.add j) = vs[j]? := by
  constructor
  · intro h j hj
    have := h (a.add j, vs[j]) (by
      simp only [cellsOf, List.mem_map]
      exact ⟨(vs[j], j), by simp [List.mem_zipIdx_iff_getElem?, hj], rfl⟩)
    simpa [hj] using this
  · intro h p hp
    simp only [cellsOf, List.mem_map] at hp
    obtain ⟨⟨v, j⟩, hm, rfl⟩ := hp
    simp only [List.mem_zipIdx_iff_getElem?] at hm
    have hj : j < vs.size := by
      have := List.getElem?_eq_some_iff.1 hm
      simpa using this.1
    rw [h j hj]
    simpa using hm

theorem opLoad_sound {P : Program} {t : TypeId} {va : Value} {w : World} {K : Value → List (Addr × Value) → Prop} (h : opLoad P t va w K) :
    ∃ v S, K v S ∧ (∀ p ∈ S, w.cell? p.1 = some p.2) ∧ ∀ w', (∀ p ∈ S, w'.cell? p.1 = some p.2) → (Instr.loadAt t va).run P w' = .ok v w' := by
  unfold opLoad at h
  split at h <;> try exact h.elim
  rename_i a
  split at h
  · rename_i k hs
    obtain ⟨d, hd⟩ := shapeOf_under (P := P) (t := t) (by rw [hs]; simp)
    obtain ⟨n, hn, hk⟩ := h
    exact ⟨_, _, hk, by simpa using hn, fun w' hw => run_load hd (by rw [hs]; simp) (hw _ (.head _))⟩
  · rename_i hs
    obtain ⟨d, hd⟩ := shapeOf_under (P := P) (t := t) (by rw [hs]; simp)
    obtain ⟨n, hn, hk⟩ := h
    exact ⟨_, _, hk, by simpa using hn, fun w' hw => run_load hd (by rw [hs]; simp) (hw _ (.head _))⟩
  · rename_i hs
    obtain ⟨d, hd⟩ := shapeOf_under (P := P) (t := t) (by rw [hs]; simp)
    obtain ⟨n, hn, hk⟩ := h
    exact ⟨_, _, hk, by simpa using hn, fun w' hw => run_load hd (by rw [hs]; simp) (hw _ (.head _))⟩
  · rename_i hs
    obtain ⟨d, hd⟩ := shapeOf_under (P := P) (t := t) (by rw [hs]; simp)
    obtain ⟨p, l, c, hn, hk⟩ := h
    exact ⟨_, _, hk, by simpa using hn, fun w' hw => run_load hd (by rw [hs]; simp) (hw _ (.head _))⟩
  · rename_i hs
    obtain ⟨d, hd⟩ := shapeOf_under (P := P) (t := t) (by rw [hs]; simp)
    obtain ⟨n, hn, hk⟩ := h
    exact ⟨_, _, hk, by simpa using hn, fun w' hw => run_load hd (by rw [hs]; simp) (hw _ (.head _))⟩
  · rename_i hs
    obtain ⟨d, hd⟩ := shapeOf_under (P := P) (t := t) (by rw [hs]; simp)
    obtain ⟨n, hn, hk⟩ := h
    exact ⟨_, _, hk, by simpa using hn, fun w' hw => run_load hd (by rw [hs]; simp) (hw _ (.head _))⟩
  · rename_i hs
    split at h <;> try exact h.elim
    rename_i i hi
    obtain ⟨vs, hn, hv, hk⟩ := h
    exact ⟨_, _, hk, mem_cellsOf.2 (by rw [hn]; exact hv), fun w' hw => run_loadA hs hi hn (by rw [← hn]; exact mem_cellsOf.1 hw)⟩
  · rename_i hs
    split at h <;> try exact h.elim
    rename_i d hd
    obtain ⟨n, hn, hk⟩ := h
    exact ⟨_, _, hk, by simpa using hn, fun w' hw => run_load hd (by rw [hs]; simp) (hw _ (.head _))⟩
  · exact h.elim
  · rename_i hs
    obtain ⟨d, hd⟩ := shapeOf_under (P := P) (t := t) (by rw [hs]; simp)
    obtain ⟨f, b, c, hn, hk⟩ := h
    exact ⟨_, _, hk, by simpa using hn, fun w' hw => run_load hd (by rw [hs]; simp) (hw _ (.head _))⟩

/-! ### Frames: those of a function, those of a loop's round -/
/-- All is let in; the frames are a function's (none), or a round's. -/
def FW (r : Option Nat) : Fence := { fn := fun _ => True, depth := none, alive := false, round := r }
theorem FW_room (r : Option Nat) (n : Nat) : (FW r).room n := fun d h => by simp [FW] at h
theorem callsIn_FW {r : Option Nat} {n : Nat} {P : Program} {f : FuncId} {args : Array Value} {w : World} {R : Ending → World → Prop} : CallsIn (FW r) n P f args w R ↔ Calls P f args w R := callsIn_wide (n := n)
theorem wpIn_FW {n : Nat} {P : Program} {c : Code} {Q : Exit → Act → World → Prop} {a : Act} {w : World} : c.wpIn (FW none) n P Q a w ↔ c.wp P Q a w := wpIn_wide
theorem roundIn_FW {r r' : Option Nat} {n n' : Nat} {P : Program} {l : Nat} {f : FuncId} {tmps : Array Value} {assign body : Code} {w : World} {R : Ending → World → Prop}
    (h : RoundIn (FW r) n P l f tmps assign body w R) : RoundIn (FW r') n' P l f tmps assign body w R := ⟨trivial, fun c cs _ => h.2 c cs (FW_room _ _)⟩
/-- A call of a loop's yield. -/
def yieldW (P : Program) (l : Nat) (args : Array Value) (w : World) (R : Value → World → Prop) : Prop :=
  ∃ fn tmps assign body, (Instr.yield l args).run P w = .ok (.round l fn tmps assign body) w ∧
    RoundIn (FW none) 0 P l fn tmps assign body w fun e w' => ∃ v, e = .returned v ∧ R v w'
/-- A call of a function that the model stands in for. -/
def extW (P : Program) (f : FuncId) (args : Array Value) (w : World) (R : Value → World → Prop) : Prop := ∃ v w', (callFunc f args).run P w = .ok (.value v) w' ∧ R v w'
/-- A call of a function value. -/
def callV (P : Program) (f : Fn) (first captured args : Array Value) (w : World) (R : Value → World → Prop) : Prop :=
  match f with
  | .func f => match P.funcs[f]? with
      | some fn => match fn.body with
        | some _ => call P f (first ++ args ++ captured) w R
        | none => extW P f (first ++ args ++ captured) w R
      | none => False
  | .yield l => yieldW P l (first ++ args) w R
  | _ => False
theorem yieldW_mono {P : Program} {l : Nat} {args : Array Value} {w : World} {R R' : Value → World → Prop} (h : yieldW P l args w R) (hr : ∀ v w', R v w' → R' v w') : yieldW P l args w R' := by
  obtain ⟨fn, tmps, assign, body, h1, h2⟩ := h
  exact ⟨fn, tmps, assign, body, h1, h2.mono fun e w' ⟨v, he, hv⟩ => ⟨v, he, hr _ _ hv⟩⟩
theorem callV_mono {P : Program} {f : Fn} {a b args : Array Value} {w : World} {R R' : Value → World → Prop} (h : callV P f a b args w R) (hr : ∀ v w', R v w' → R' v w') : callV P f a b args w R' := by
  unfold callV at *
  split at h
  · split at h <;> try exact h.elim
    split at h
    · exact Calls.mono h fun e w' ⟨v, he, hv⟩ => ⟨v, he, hr _ _ hv⟩
    · obtain ⟨v, w', h1, h2⟩ := h
      exact ⟨v, w', h1, hr _ _ h2⟩
  · exact yieldW_mono h hr
  · exact h.elim

theorem ok_of_andThen {α β : Type} {r : Result α} {f : α → World → Result β} {x : β} {w' : World} (h : r.andThen f = .ok x w') : ∃ a w1, r = .ok a w1 ∧ f a w1 = .ok x w' := by
  cases r with
  | ok a w1 => exact ⟨a, w1, rfl, h⟩
  | halt e w1 => cases h
theorem defer_of_run {P : Program} {o : Oper} {ρ : Operand → Value} {c : Call} {x : Next} {w w' : World} (ho : o.op = .defer c) (h : (execOp ρ o).run P w = .ok x w') : ∃ d, x = .defer d := by
  simp only [execOp, ho, Sem.run_bind] at h
  obtain ⟨d, w1, _, h2⟩ := ok_of_andThen h
  simp only [Sem.run_pure, Result.ok.injEq] at h2
  exact ⟨d, h2.1.symm⟩
/-- What an operation comes to, in a function's frame or in a round's. -/
theorem wpIn_of_run {P : Program} {r : Option Nat} {n : Nat} {o : Oper} {a : Act} {w w' : World} {x : Next} {next : Act → World → Prop} {Q : Exit → Act → World → Prop}
    (hr : (execOp a.eval o).run P w = .ok x w') (hd : ∀ d, x ≠ .defer d) (h : o.uponIn (FW r) n P a next Q (.ok x w')) : o.wpIn (FW r) n P a w next Q := by
  refine ⟨fun _ _ => trivial, ?_⟩
  have hnd : ∀ c, o.op ≠ .defer c := fun c ho => by
    obtain ⟨d, e⟩ := defer_of_run ho hr
    exact hd d e
  have e : Oper.semAt (FW r).round a.eval o = execOp a.eval o := Oper.semAt_eq _ _ _ hnd
  rw [e, hr]
  exact h

/-! ### What turns memory -/
def nextOf (K : Value → World → Prop) : Next → World → Prop
  | .value v, w => K v w
  | .skip, w => K undef w
  | _, _ => False

def opEff (P : Program) (o : Oper) (ρ : Operand → Value) (w : World) (K : Value → World → Prop) : Prop :=
  match o.op with
  | .store t a x => match ρ a, P.info? t with
    | .pointer (some ad), some i => match ρ x with
      | .agg vs => stA P ad i.size vs w fun w' => K undef w'
      | .tuple _ => False
      | v => if i.size = 1 then st ad v w fun w' => K undef w' else False
    | _, _ => False
  | .alloc t => match P.info? t with
    | some i => match i.zero with | some z => new z.cells t w fun b w' => K (.pointer (some ⟨b, 0, none⟩)) w' | none => False
    | none => False
  | .box t x => new (ρ x).cells t w fun b w' => K (.pointer (some ⟨b, 0, none⟩)) w'
  | .buildSlice t len parts => match P.underlying t with
    | some (.slice e) => match P.info? e with
      | some i => match i.zero with
        | some z => if len * i.size > 2 ^ 24 then False else
          match parts.toList with
          | [(0, x)] => match ρ x with
            | .agg vs => if len = 1 then vs.size = i.size ∧ new vs e w fun b w' => K (.slice (some ⟨b, 0, none⟩) 1 1) w' else False
            | _ => match Instr.fill (fun j => some (j * i.size, i.size)) ((Array.range (len * i.size)).map (z.cells[· % z.cells.size]!)) (parts.map fun (j, x) => (j, ρ x)).toList with
              | some cs => new cs e w fun b w' => K (.slice (some ⟨b, 0, none⟩) len len) w'
              | none => False
          | _ => match Instr.fill (fun j => some (j * i.size, i.size)) ((Array.range (len * i.size)).map (z.cells[· % z.cells.size]!)) (parts.map fun (j, x) => (j, ρ x)).toList with
            | some cs => new cs e w fun b w' => K (.slice (some ⟨b, 0, none⟩) len len) w'
            | none => False
        | none => False
      | none => False
    | _ => False
  | .call { callee := .builtin .append, args := args, argTypes := ts } => runsS P (Builtin.append_ ts o.type (args.map ρ)) w fun p l c w' => K (.slice p l c) w'
  | .convert s t x => match P.underlying t with
    | some (.slice _) => runsS P (convert s t (ρ x)) w fun p l c w' => K (.slice p l c) w'
    | some .string => runsT P (convert s t (ρ x)) w fun t w' => K (.string t) w'
    | _ => False
  | .makeSlice t l c => runsS P (Instr.makeSlice t (ρ l) (ρ c)) w fun p l c w' => K (.slice p l c) w'
  | .call { callee := .value g, args := args, argTypes := _ } => match ρ g with
    | .func f first captured => callV P f first captured (args.map ρ) w fun v w' => asTy P o.type v fun v => K v w'
    | _ => False
  | .call { callee := .builtin .delete, args := args, argTypes := ts } => match args.toList with
    | [m, k] => match ρ m with | .map r => delM P ts o.type r (ρ k) w fun w' => K (.tuple #[]) w' | _ => False
    | _ => False
  | .call { callee := .builtin .clear, args := args, argTypes := ts } => match args.toList with
    | [m] => match ρ m with | .slice p l c => clrM P ts o.type p l c w fun w' => K (.tuple #[]) w' | _ => False
    | _ => False
  | .call { callee := .builtin .len, args := args, argTypes := ts } => match args.toList with
    | [m] => match ρ m with | .map r => lenM P ts o.type r w fun n => K (.int .i64 n) w | _ => False
    | _ => False
  | .makeMap t r => match r with | none => newM w fun b w' => K (.map (some b)) w' | some _ => False
  | .lookup t x i ok => match ρ x with | .map r => lookW P t r (ρ i) ok w fun v => asTy P o.type v fun v => K v w | _ => False
  | .mapUpdate t m k v => match ρ m with | .map r => setM P t r (ρ k) (ρ v) w fun w' => K undef w' | _ => False
  | .insert t m k v => match ρ m with | .map r => setM P t r (ρ k) (ρ v) w fun w' => K undef w' | _ => False
  | .defer _ => False
  | _ => runs P (execOp ρ o) w (nextOf fun v w' => asTy P o.type v fun v => K v w')

/-- No function of the program is named so that a call of it is no plain call. -/
def Plain (P : Program) : Prop := ∀ (f : Nat) (fn : Func), P.funcs[f]? = some fn → (fn.name == "runtime.NumGoroutine") = false

theorem fill_one {size : Nat} {z vs : Array Value} (hz : z.size = size) (hv : vs.size = size) :
    Instr.fill (fun j => some (j * size, size)) z [(0, .agg vs)] = some vs := by
  have key : ∀ (l : List Value) (k : Nat) (acc : Array Value), k + l.length ≤ acc.size →
      (l.zipIdx k).foldl (fun cs (c, j) => cs.setIfInBounds (0 * size + j) c) acc = (acc.toList.take k ++ l ++ acc.toList.drop (k + l.length)).toArray := by
    intro l
    induction l with
    | nil => intro k acc _; simp
    | cons x l ih =>
      intro k acc hk
      simp only [List.length_cons] at hk
      simp only [List.zipIdx_cons, List.foldl_cons]
      rw [ih (k + 1) _ (by simp; omega)]
      apply Array.ext'
      simp only [Nat.zero_mul, Nat.zero_add, Array.toList_setIfInBounds, List.append_assoc]
      apply List.ext_getElem?
      intro i
      simp only [List.getElem?_append, List.getElem?_take, List.getElem?_drop, List.length_take, List.length_set, Array.length_toList, List.getElem?_set, List.length_cons, List.getElem?_cons, List.length_drop]
      have h1 : min (k + 1) acc.size = k + 1 := by omega
      have h2 : min k acc.size = k := by omega
      simp only [h1, h2]
      rcases Nat.lt_trichotomy i k with h | h | h
      · simp [h, show i < k + 1 by omega, show k ≠ i by omega]
      · subst h
        simp [show i < acc.size by omega]
      · have e1 : ¬ i < k + 1 := by omega
        have e2 : ¬ i < k := by omega
        simp only [e1, e2, if_false]
        by_cases h3 : i - (k + 1) < l.length
        · simp [h3, show i - k < l.length + 1 by omega, show i - k - 1 = i - (k + 1) by omega, show i - k ≠ 0 by omega]
        · have e3 : ¬ i - k < l.length + 1 := by omega
          simp only [h3, e3, if_false]
          have e4 : k + 1 + l.length + (i - (k + 1) - l.length) = k + (l.length + 1) + (i - k - (l.length + 1)) := by omega
          rw [e4, if_neg (by omega)]
  have h := key vs.toList 0 z (by simp [hz, hv])
  simp only [Instr.fill]
  split
  · rename_i hc
    simp [Value.cells, hv, hz] at hc
  congr 1
  show vs.zipIdx.foldl (fun cs (c, j) => cs.setIfInBounds (0 * size + j) c) z = vs
  have hzz : vs.zipIdx.foldl (fun cs (c, j) => cs.setIfInBounds (0 * size + j) c) z = (vs.toList.zipIdx 0).foldl (fun cs (c, j) => cs.setIfInBounds (0 * size + j) c) z := by
    rw [← Array.foldl_toList]
    simp
  rw [hzz, h]
  apply Array.ext'
  simp [hz, hv]

theorem run_storeVar1 {P : Program} {t : TypeId} {i : TypeInfo} {a : Addr} {v u : Value} {w : World} (hi : P.info? t = some i) (h1 : i.size = 1) (hv : ∀ cs, v ≠ .agg cs) (hv2 : ∀ cs, v ≠ .tuple cs)
    (hc : w.cell? a = some u) (hf : w.frozen? a = false) : (storeVar t a v).run P w = .ok () (w.setCell a v) := by
  have hcells : v.cells = #[v] := by cases v <;> simp_all [Value.cells]
  have ha : a.add 0 = a := by simp [Addr.add]
  simp only [storeVar, hcells, Sem.run_bind, run_sizeOf' hi, h1, Result.andThen_ok]
  cases v <;> simp_all [storeCells, store, Sem.run, Sem.run_bind]

theorem opEff_sound {P : Program} {r : Option Nat} {n : Nat} (hp : Plain P) {o : Oper} {a : Act} {w : World} {K : Value → World → Prop} {next : Act → World → Prop} {Q : Exit → Act → World → Prop}
    (h : opEff P o a.eval w K) (hn : ∀ v w', K v w' → next (a.put o.dst v) w') : o.wpIn (FW r) n P a w next Q := by
  unfold opEff at h
  split at h
  · rename_i t ad x ho
    split at h <;> try exact h.elim
    rename_i ad' i hpt hi
    split at h
    · rename_i vs hx
      obtain ⟨hs, w', hr, hk⟩ := h
      have hrun : (execOp a.eval o).run P w = .ok .skip w' := by
        simp [execOp, ho, Instr.storeAt, hpt, hx, Instr.sureAddr, storeVar, Value.cells, run_sizeOf' hi, hs, hr]
      refine wpIn_of_run hrun (fun _ => by simp) ?_
      exact hn _ _ hk
    · exact h.elim
    · rename_i hna hnt
      split at h <;> try exact h.elim
      rename_i h1
      obtain ⟨⟨u, hu⟩, hf, hk⟩ := h
      have hrun : (execOp a.eval o).run P w = .ok .skip (w.setCell ad' (a.eval x)) := by
        simp [execOp, ho, Instr.storeAt, hpt, Instr.sureAddr, run_storeVar1 hi h1 (fun cs e => hna cs e) (fun cs e => hnt cs e) hu hf]
      refine wpIn_of_run hrun (fun _ => by simp) ?_
      exact hn _ _ hk
  · rename_i t ho
    split at h <;> try exact h.elim
    rename_i i hi
    split at h <;> try exact h.elim
    rename_i z hz
    have hrun : (execOp a.eval o).run P w = .ok (.value (.pointer (some ⟨w.heap.size, 0, none⟩))) (w.alloc (.cells z.cells t)) := by
      simp [execOp, ho, Instr.alloc, zeroValue, typeInfo, hi, hz, newVar, newRow, newObj, Sem.run]
    refine wpIn_of_run hrun (fun _ => by simp) ?_
    exact hn _ _ h
  · rename_i t x ho
    have hrun : (execOp a.eval o).run P w = .ok (.value (.pointer (some ⟨w.heap.size, 0, none⟩))) (w.alloc (.cells (a.eval x).cells t)) := by
      simp [execOp, ho, Instr.box, newVar, newRow, newObj, Sem.run]
    refine wpIn_of_run hrun (fun _ => by simp) ?_
    exact hn _ _ h
  · rename_i t len parts ho
    split at h <;> try exact h.elim
    rename_i e hu
    split at h <;> try exact h.elim
    rename_i i hi
    split at h <;> try exact h.elim
    rename_i z hz
    split at h
    · exact h.elim
    rename_i hlen
    have hfill : ∀ cs, Instr.fill (fun j => some (j * i.size, i.size)) ((Array.range (len * i.size)).map (z.cells[· % z.cells.size]!)) (parts.map fun (j, x) => (j, a.eval x)).toList = some cs →
        (execOp a.eval o).run P w = .ok (.value (.slice (some ⟨w.heap.size, 0, none⟩) len len)) (w.alloc (.cells cs e)) := by
      intro cs hcs
      by_cases h0 : len * i.size = 0
      · have hz0 : ((Array.range (len * i.size)).map fun j => (#[] : Array Value)[j % (#[] : Array Value).size]!) = ((Array.range (len * i.size)).map fun j => z.cells[j % z.cells.size]!) := by simp [h0]
        simp only [execOp, ho, Instr.buildSlice, Sem.run_bind, run_underlying hu, Result.andThen_ok, run_sizeOf' hi, if_neg hlen, if_pos h0, Sem.run_pure]
        rw [hz0, hcs]
        simp [newRow, newObj, Sem.run]
      · have hzr : ∀ w, (zeroValue e).run P w = .ok z w := fun w => by simp [zeroValue, typeInfo, hi, hz]
        simp only [execOp, ho, Instr.buildSlice, Sem.run_bind, run_underlying hu, Result.andThen_ok, run_sizeOf' hi, if_neg hlen, if_neg h0, Sem.run_pure, hzr]
        rw [hcs]
        simp [newRow, newObj, Sem.run]
    split at h
    · rename_i x hparts
      split at h
      · rename_i vs hx
        split at h <;> try exact h.elim
        rename_i h1
        subst h1
        obtain ⟨hvs, hk⟩ := h
        have hpl : (parts.map fun (j, x) => (j, a.eval x)).toList = [(0, .agg vs)] := by simp [hparts, hx]
        refine wpIn_of_run (hfill vs (by rw [hpl]; exact fill_one (by simp) hvs)) (fun _ => by simp) ?_
        exact hn _ _ hk
      · split at h <;> try exact h.elim
        rename_i cs hcs
        refine wpIn_of_run (hfill cs hcs) (fun _ => by simp) ?_
        exact hn _ _ h
    · split at h <;> try exact h.elim
      rename_i cs hcs
      refine wpIn_of_run (hfill cs hcs) (fun _ => by simp) ?_
      exact hn _ _ h
  · rename_i args ts ho
    obtain ⟨p, l, c, w', hr, hk⟩ := h
    have hrun : (execOp a.eval o).run P w = .ok (.value (.slice p l c)) w' := by
      simp [execOp, ho, resolve, invoke, builtin, hr]
    refine wpIn_of_run hrun (fun _ => by simp) ?_
    exact hn _ _ hk
  · rename_i s t x ho
    split at h <;> try exact h.elim
    · obtain ⟨p, l, c, w', hr, hk⟩ := h
      have hrun : (execOp a.eval o).run P w = .ok (.value (.slice p l c)) w' := by
        simp [execOp, ho, hr]
      refine wpIn_of_run hrun (fun _ => by simp) ?_
      exact hn _ _ hk
    · obtain ⟨t, w', hr, hk⟩ := h
      have hrun : (execOp a.eval o).run P w = .ok (.value (.string t)) w' := by
        simp [execOp, ho, hr]
      refine wpIn_of_run hrun (fun _ => by simp) ?_
      exact hn _ _ hk
  · rename_i t l c ho
    obtain ⟨p, l, c, w', hr, hk⟩ := h
    have hrun : (execOp a.eval o).run P w = .ok (.value (.slice p l c)) w' := by
      simp [execOp, ho, hr]
    refine wpIn_of_run hrun (fun _ => by simp) ?_
    exact hn _ _ hk
  · rename_i g args ts ho
    split at h <;> try exact h.elim
    rename_i f first captured hg
    have hprog : ∀ (α : Type) (k : Program → Sem α) (w : World), (Sem.bind program k).run P w = (k P).run P w := fun _ _ _ => rfl
    unfold callV at h
    split at h
    · rename_i f
      split at h <;> try exact h.elim
      rename_i fn hf
      split at h
      · rename_i c hb
        have hname : ¬ fn.name = "runtime.NumGoroutine" := by simpa using hp f fn hf
        have hrun : (execOp a.eval o).run P w = .ok (.enter f (first ++ args.map a.eval ++ captured)) w := by
          simp only [execOp, ho, resolve, Deferred.ofValue, hg, invoke, callFunc, Sem.run_bind, Sem.run_pure, Result.andThen_ok]
          simp [program, Sem.run, hf, hb, hname]
        refine wpIn_of_run hrun (fun _ => by simp) ⟨fun hd => by simp [FW] at hd, callsIn_FW.2 (Calls.mono h ?_)⟩
        rintro e w' ⟨v, rfl, hk⟩
        exact hn _ _ (asTy_sound (K := fun v => K v w') hk)
      · obtain ⟨v, w', hr, hk⟩ := h
        have hrun : (execOp a.eval o).run P w = .ok (.value v) w' := by
          simp only [execOp, ho, resolve, Deferred.ofValue, hg, invoke, Sem.run_bind, Sem.run_pure, Result.andThen_ok]
          exact hr
        exact wpIn_of_run hrun (fun _ => by simp) (hn _ _ (asTy_sound (K := fun v => K v w') hk))
    · rename_i l
      obtain ⟨fn, tmps, assign, body, hy, hR⟩ := h
      have hrun : (execOp a.eval o).run P w = .ok (.round l fn tmps assign body) w := by
        simp only [execOp, ho, resolve, Deferred.ofValue, hg, invoke, Sem.run_bind, Sem.run_pure, Result.andThen_ok]
        exact hy
      refine wpIn_of_run hrun (fun _ => by simp) ⟨fun hd => by simp [FW] at hd, roundIn_FW (hR.mono ?_)⟩
      rintro e w' ⟨v, rfl, hk⟩
      exact hn _ _ (asTy_sound (K := fun v => K v w') hk)
    · exact h.elim
  · rename_i args ts ho
    split at h <;> try exact h.elim
    rename_i m k hargs
    split at h <;> try exact h.elim
    rename_i r hm
    obtain ⟨w', hr, hk⟩ := h
    have hargs' : args.map a.eval = #[.map r, a.eval k] := by
      apply Array.ext'
      simp [hargs, hm]
    have hrun : (execOp a.eval o).run P w = .ok (.value (.tuple #[])) w' := by
      simp [execOp, ho, resolve, invoke, builtin, hargs', hr]
    exact wpIn_of_run hrun (fun _ => by simp) (hn _ _ hk)
  · rename_i args ts ho
    split at h <;> try exact h.elim
    rename_i m hargs
    split at h <;> try exact h.elim
    rename_i p l c hm
    obtain ⟨w', hr, hk⟩ := h
    have hargs' : args.map a.eval = #[.slice p l c] := by
      apply Array.ext'
      simp [hargs, hm]
    have hrun : (execOp a.eval o).run P w = .ok (.value (.tuple #[])) w' := by
      simp [execOp, ho, resolve, invoke, builtin, hargs', hr]
    exact wpIn_of_run hrun (fun _ => by simp) (hn _ _ hk)
  · rename_i args ts ho
    split at h <;> try exact h.elim
    rename_i m hargs
    split at h <;> try exact h.elim
    rename_i r hm
    obtain ⟨n, hr, hk⟩ := h
    have hargs' : args.map a.eval = #[.map r] := by
      apply Array.ext'
      simp [hargs, hm]
    have hrun : (execOp a.eval o).run P w = .ok (.value (.int .i64 n)) w := by
      simp [execOp, ho, resolve, invoke, builtin, hargs', hr]
    exact wpIn_of_run hrun (fun _ => by simp) (hn _ _ hk)
  · rename_i t r ho
    split at h <;> try exact h.elim
    rename_i hr0
    have hrun : (execOp a.eval o).run P w = .ok (.value (.map (some w.heap.size))) (w.alloc (.map #[] 0)) := by
      simp [execOp, ho, Instr.makeMap, newObj, Sem.run]
    exact wpIn_of_run hrun (fun _ => by simp) (hn _ _ h)
  · rename_i t x i ok ho
    split at h <;> try exact h.elim
    rename_i r hx
    obtain ⟨v, hr, hk⟩ := h
    have hrun : (execOp a.eval o).run P w = .ok (.value v) w := by
      simp [execOp, ho, hx, hr]
    exact wpIn_of_run hrun (fun _ => by simp) (hn _ _ (asTy_sound (K := fun v => K v w) hk))
  · rename_i t m k v ho
    split at h <;> try exact h.elim
    rename_i r hm
    obtain ⟨w', hr, hk⟩ := h
    have hrun : (execOp a.eval o).run P w = .ok .skip w' := by
      simp [execOp, ho, hm, hr]
    exact wpIn_of_run hrun (fun _ => by simp) (hn _ _ hk)
  · rename_i t m k v ho
    split at h <;> try exact h.elim
    rename_i r hm
    obtain ⟨w', hr, hk⟩ := h
    have hrun : (execOp a.eval o).run P w = .ok .skip w' := by
      simp [execOp, ho, hm, hr]
    exact wpIn_of_run hrun (fun _ => by simp) (hn _ _ hk)
  · exact h.elim
  · obtain ⟨x, w', hr, hk⟩ := h
    cases x <;> simp only [nextOf] at hk
    · exact wpIn_of_run hr (fun _ => by simp) (hn _ _ (asTy_sound (K := fun v => K v w') hk))
    · exact wpIn_of_run hr (fun _ => by simp) (hn _ _ (asTy_sound (K := fun v => K v w') hk))

end Go.Sp
