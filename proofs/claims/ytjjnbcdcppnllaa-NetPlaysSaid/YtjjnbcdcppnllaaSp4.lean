/- A verified symbolic compile of the translated Go code: part 4: a statement's operations, in the text's order or in whatever order. No conditions. -/
import Derived.Test.YtjjnbcdcppnllaaSp3
set_option linter.unusedVariables false
set_option linter.unusedSimpArgs false
set_option maxRecDepth 100000
namespace Go.Sp
open Go.RowKit

inductive Kind where
  | pure | load | alloc | eff

def kindOf (P : Program) (o : Oper) : Kind :=
  match o.op with
  | .move _ | .assign _ | .pick .. | .nilCheck _ | .binOp .. | .unOp .. | .indexAddr .. | .index .. | .slice .. | .field .. | .fieldAddr .. | .build .. | .extract .. | .makeFunc .. | .makeInterface .. => .pure
  | .call { callee := .builtin .len, args := _, argTypes := ts } => match P.underlying (ts.getD 0 0) with | some (.map ..) => .eff | some (.chan ..) => .eff | _ => .pure
  | .call { callee := .builtin .min, .. } | .call { callee := .builtin .max, .. } => .pure
  | .convert s t _ => match P.underlying s, P.underlying t with | some (.slice _), _ => .eff | _, some (.slice _) => .eff | _, _ => .pure
  | .load .. => .load
  | .alloc _ | .box .. | .buildSlice .. => .alloc
  | _ => .eff

/-- One operation: K is told its value, the cells that it looked at, and the world behind it. -/
def opW (P : Program) (o : Oper) (ρ : Operand → Value) (w : World) (K : Value → World → List (Addr × Value) → Prop) : Prop :=
  match kindOf P o with
  | .pure => opPure P o ρ fun v => K v w []
  | .load => match o.op with | .load t a => opLoad P t (ρ a) w fun v S => K v w S | _ => False
  | .alloc => opEff P o ρ w fun v w' => K v w' []
  | .eff => opEff P o ρ w fun v w' => K v w' []

/-- An operation's guard: the test's value becomes what it was found to be. -/
def guardW (ops : Array Oper) (g : Option (Nat × Bool)) (a : Act) (T F : Act → Prop) : Prop :=
  match g with
  | none => T a
  | some (j, want) => match (ops[j]?).bind (·.dst) with
    | some d => match a.tmps[d]? with
      | some (.tuple _) => F a
      | some (.bool b) => br b (if want then T (a.put (some d) (.bool true)) else F (a.put (some d) (.bool true))) (if want then F (a.put (some d) (.bool false)) else T (a.put (some d) (.bool false)))
      | _ => False
    | none => False

theorem put_same {a : Act} {d : Nat} {v : Value} (h : a.tmps[d]? = some v) : a.put (some d) v = a := by
  cases a with
  | mk tmps defers =>
    simp only [Act.put, Act.mk.injEq, and_true]
    apply Array.ext_getElem?
    intro i
    simp only [Array.getElem?_setIfInBounds]
    split
    · rename_i e
      subst e
      have hlt : d < tmps.size := by
        have := Array.getElem?_eq_some_iff.1 h
        exact this.1
      simp only at h
      rw [if_pos hlt, h]
    · rfl

theorem guardW_sound {ops : Array Oper} {o : Oper} {a : Act} {T F : Act → Prop} (h : guardW ops o.guard a T F) :
    (Region.wanted o (yielded ops a.tmps) = true ∧ T a) ∨ (Region.wanted o (yielded ops a.tmps) = false ∧ F a) := by
  unfold guardW at h
  split at h
  · rename_i hg
    exact .inl ⟨by simp [Region.wanted, hg], h⟩
  · rename_i j want hg
    split at h <;> try exact h.elim
    rename_i d hd
    split at h <;> try exact h.elim
    · rename_i u hb
      have hy : yielded ops a.tmps j = none := by simp [yielded, hd, hb]
      exact .inr ⟨by simp [Region.wanted, hg, hy], h⟩
    rename_i b hb
    have hy : yielded ops a.tmps j = some b := by simp [yielded, hd, hb]
    rcases br_sound h with ⟨rfl, h⟩ | ⟨rfl, h⟩
    · rw [put_same hb] at h
      cases want
      · exact .inr ⟨by simp [Region.wanted, hg, hy], by simpa [br] using h⟩
      · exact .inl ⟨by simp [Region.wanted, hg, hy], by simpa [br] using h⟩
    · rw [put_same hb] at h
      cases want
      · exact .inl ⟨by simp [Region.wanted, hg, hy], by simpa [br] using h⟩
      · exact .inr ⟨by simp [Region.wanted, hg, hy], by simpa [br] using h⟩

/-- Two states that are one outside of some slots. -/
structure Agree (L : List Tmp) (a b : Act) : Prop where
  defers : b.defers = a.defers
  size : b.tmps.size = a.tmps.size
  tmps : ∀ t, t ∉ L → b.tmps[t]? = a.tmps[t]?
theorem Agree.refl (L : List Tmp) (a : Act) : Agree L a a := ⟨rfl, rfl, fun _ _ => rfl⟩
theorem Agree.trans {L M N : List Tmp} {a b c : Act} (h : Agree L a b) (k : Agree M b c) (hL : ∀ t ∈ L, t ∈ N) (hM : ∀ t ∈ M, t ∈ N) : Agree N a c :=
  ⟨k.defers.trans h.defers, k.size.trans h.size, fun t ht => (k.tmps t fun x => ht (hM t x)).trans (h.tmps t fun x => ht (hL t x))⟩
theorem Agree.put {L : List Tmp} {a b : Act} (h : Agree L a b) {d : Option Tmp} (hd : ∀ t, d = some t → t ∈ L) (v : Value) : Agree L a (b.put d v) := by
  cases d with
  | none => exact h
  | some d =>
    refine ⟨h.defers, by simpa [Act.put] using h.size, fun t ht => ?_⟩
    have : t ≠ d := fun e => ht (e ▸ hd d rfl)
    simp only [Act.put, Array.getElem?_setIfInBounds]
    rw [if_neg (fun e => this e.symm)]
    exact h.tmps t ht
/-- The slots that a statement turns. -/
def modsOps (ops : Array Oper) : List Tmp := ops.toList.filterMap (·.dst)
theorem mem_modsOps {ops : Array Oper} {i : Nat} {o : Oper} (h : ops[i]? = some o) : ∀ t, o.dst = some t → t ∈ modsOps ops := by
  intro t ht
  exact List.mem_filterMap.2 ⟨o, by simpa using Array.mem_of_getElem? h, ht⟩

/-! ### in the text's order -/
def seqW (P : Program) (ops : Array Oper) (Q : Act → World → Prop) : List Nat → Act → World → Prop
  | [], a, w => Q a w
  | i :: l, a, w => match ops[i]? with
    | none => False
    | some o => guardW ops o.guard a (fun a => opW P o a.eval w fun v w' _ => seqW P ops Q l (a.put o.dst v) w') (fun a => seqW P ops Q l (a.put o.dst undef) w)

theorem wpo_value {P : Program} {r : Option Nat} {n : Nat} {o : Oper} {a : Act} {w w' : World} {v : Value} {next : Act → World → Prop} {Q : Exit → Act → World → Prop}
    (hr : (execOp a.eval o).run P w = .ok (.value v) w') (h : next (a.put o.dst v) w') : o.wpIn (FW r) n P a w next Q :=
  wpIn_of_run hr (fun _ => by simp) h

theorem run_opLoad {P : Program} {o : Oper} {ρ : Operand → Value} {t : TypeId} {x : Operand} {w : World} {v : Value} (ho : o.op = .load t x)
    (h : (Instr.loadAt t (ρ x)).run P w = .ok v w) : (execOp ρ o).run P w = .ok (.value v) w := by
  simp [execOp, ho, h]

theorem opW_sound {P : Program} {r : Option Nat} {n : Nat} (hp : Plain P) {o : Oper} {a : Act} {w : World} {K : Value → World → List (Addr × Value) → Prop} {next : Act → World → Prop} {Q : Exit → Act → World → Prop}
    (h : opW P o a.eval w K) (hn : ∀ v w' S, K v w' S → next (a.put o.dst v) w') : o.wpIn (FW r) n P a w next Q := by
  unfold opW at h
  split at h
  · obtain ⟨v, hk, hr⟩ := opPure_sound h
    exact wpo_value (hr w) (hn _ _ _ hk)
  · split at h <;> try exact h.elim
    rename_i t x ho
    obtain ⟨v, S, hk, hS, hr⟩ := opLoad_sound h
    exact wpo_value (run_opLoad ho (hr w hS)) (hn _ _ _ hk)
  · exact opEff_sound hp h fun v w' hk => hn _ _ _ hk
  · exact opEff_sound hp h fun v w' hk => hn _ _ _ hk

theorem seqW_sound {P : Program} {r : Option Nat} {n : Nat} (hp : Plain P) {ops : Array Oper} {R : Act → World → Prop} {Q : Exit → Act → World → Prop} {a₀ : Act} (hQ : ∀ a w, Agree (modsOps ops) a₀ a → R a w → Q .normal a w) :
    ∀ (l : List Nat) (a : Act) (w : World), Agree (modsOps ops) a₀ a → seqW P ops R l a w → wpOpsIn (FW r) n P ops Q l a w := by
  intro l
  induction l with
  | nil => exact fun a w hA h => hQ a w hA h
  | cons i l ih =>
    intro a w hA h
    simp only [seqW] at h
    rw [wpOpsIn]
    split at h <;> try exact h.elim
    rename_i o ho
    simp only [ho]
    rcases guardW_sound (o := o) h with ⟨hw, h⟩ | ⟨hw, h⟩
    · simp only [hw, if_true]
      exact opW_sound hp h fun v w' _ hk => ih _ _ (hA.put (mem_modsOps ho) v) hk
    · simp only [hw, Bool.false_eq_true, if_false]
      exact ⟨fun _ _ => trivial, ih _ _ (hA.put (mem_modsOps ho) _) h⟩

/-! ### in whatever order -/
/-- What the cells that were looked at, by those that needn't stand ahead of this operation, must still hold behind it. -/
def keepS : List (Addr × Value) → World → Prop → Prop
  | [], _, X => X
  | (a, v) :: S, w, X => w.cell? a = some v ∧ keepS S w X
def stab (anc : List Nat) : List (Nat × List (Addr × Value)) → World → Prop → Prop
  | [], _, X => X
  | (j, S) :: pend, w, X => if anc.contains j then stab anc pend w X else keepS S w (stab anc pend w X)

theorem keepS_sound {S : List (Addr × Value)} {w : World} {X : Prop} (h : keepS S w X) : (∀ p ∈ S, w.cell? p.1 = some p.2) ∧ X := by
  induction S with
  | nil => exact ⟨by simp, h⟩
  | cons p S ih =>
    obtain ⟨h1, h2⟩ := ih h.2
    exact ⟨fun q hq => by cases hq with | head => exact h.1 | tail _ hq => exact h1 q hq, h2⟩
theorem stab_sound {anc : List Nat} {pend : List (Nat × List (Addr × Value))} {w : World} {X : Prop} (h : stab anc pend w X) :
    (∀ p ∈ pend, p.1 ∉ anc → ∀ q ∈ p.2, w.cell? q.1 = some q.2) ∧ X := by
  induction pend with
  | nil => exact ⟨by simp, h⟩
  | cons p pend ih =>
    obtain ⟨j, S⟩ := p
    unfold stab at h
    split at h
    · rename_i hc
      obtain ⟨h1, h2⟩ := ih h
      refine ⟨fun q hq hn => ?_, h2⟩
      cases hq with
      | head => exact absurd (by simpa using hc) hn
      | tail _ hq => exact h1 q hq hn
    · obtain ⟨h0, h3⟩ := keepS_sound h
      obtain ⟨h1, h2⟩ := ih h3
      refine ⟨fun q hq hn => ?_, h2⟩
      cases hq with
      | head => exact h0
      | tail _ hq => exact h1 q hq hn

/-- An order; where two that turn memory stand in either order: both. -/
inductive Ord where
  | nil
  | cons (i : Nat) (l : Ord)
  | fork (i : Nat) (l : Ord) (j : Nat) (l' : Ord)
def ol : List Nat → Ord → Ord
  | [], t => t
  | i :: l, t => .cons i (ol l t)
def oneW (P : Program) (ops : Array Oper) (anc : Nat → List Nat) (i : Nat) (pend : List (Nat × List (Addr × Value))) (a : Act) (w : World) (k : List (Nat × List (Addr × Value)) → Act → World → Prop) : Prop :=
  match ops[i]? with
    | none => False
    | some o => guardW ops o.guard a
        (fun a => match kindOf P o with
          | .pure => opPure P o a.eval fun v => k pend (a.put o.dst v) w
          | .load => match o.op with | .load t x => opLoad P t (a.eval x) w fun v S => k ((i, S) :: pend) (a.put o.dst v) w | _ => False
          | .alloc => opEff P o a.eval w fun v w' => k pend (a.put o.dst v) w'
          | .eff => opEff P o a.eval w fun v w' => stab (anc i) pend w' (k pend (a.put o.dst v) w'))
        (fun a => k pend (a.put o.dst undef) w)
/-- In the order 'l'; 'anc j': what stands ahead of j in every order. -/
def canW (P : Program) (ops : Array Oper) (anc : Nat → List Nat) (Q : Act → World → Prop) : Ord → List (Nat × List (Addr × Value)) → Act → World → Prop
  | .nil, _, a, w => Q a w
  | .cons i l, pend, a, w => oneW P ops anc i pend a w fun pend a w => canW P ops anc Q l pend a w
  | .fork i l j l', pend, a, w => (oneW P ops anc i pend a w fun pend a w => canW P ops anc Q l pend a w) ∧ (oneW P ops anc j pend a w fun pend a w => canW P ops anc Q l' pend a w)

def Closed (anc : Nat → List Nat) (listed : Array Bool) : Prop := ∀ k, listed.getD k false = true → ∀ m ∈ anc k, listed.getD m false = true
def ancOk (ops : Array Oper) (anc : Nat → List Nat) : Bool :=
  (List.range ops.size).all fun j => (anc j).all fun m => match ops[j]? with
    | some o => o.after.any fun e => Region.binds .any e && (e.on == m || (anc e.on).contains m)
    | none => true
theorem ready_anc {ops : Array Oper} {anc : Nat → List Nat} (hok : ancOk ops anc = true) {listed : Array Bool} (hc : Closed anc listed) {j : Nat} (hj : j ∈ Region.ready .any ops listed) :
    ∀ m ∈ anc j, listed.getD m false = true := by
  intro m hm
  obtain ⟨hun, oj, hoj, hall⟩ := mem_ready.1 hj
  have hlt : j < ops.size := (Array.getElem?_eq_some_iff.1 hoj).1
  have h1 := List.all_eq_true.1 (List.all_eq_true.1 hok j (List.mem_range.2 hlt)) m hm
  simp only [hoj] at h1
  obtain ⟨e, he, hb⟩ := Array.any_eq_true'.1 h1
  simp only [Bool.and_eq_true, Bool.or_eq_true, beq_iff_eq, List.contains_iff_mem] at hb
  have hl := hall e he hb.1
  rcases hb.2 with rfl | hm2
  · exact hl
  · exact hc _ hl m hm2
theorem getD_set_false {listed : Array Bool} {i j : Nat} (h : listed.getD j false = true) : (listed.setIfInBounds i true).getD j false = true := by
  simp only [Array.getD_eq_getD_getElem?, Array.getElem?_setIfInBounds] at *
  split
  · split
    · rfl
    · rename_i e hlt
      subst e
      rw [Array.getElem?_eq_none (by omega)] at h
      exact h
  · exact h
theorem Closed.set {ops : Array Oper} {anc : Nat → List Nat} (hok : ancOk ops anc = true) {listed : Array Bool} (hc : Closed anc listed) {j : Nat} (hj : j ∈ Region.ready .any ops listed) :
    Closed anc (listed.setIfInBounds j true) := by
  intro k hk m hm
  by_cases e : k = j
  · subst e
    exact getD_set_false (ready_anc hok hc hj m hm)
  · refine getD_set_false (hc k ?_ m hm)
    simp only [Array.getD_eq_getD_getElem?, Array.getElem?_setIfInBounds] at *
    rw [if_neg (fun h => e h.symm)] at hk
    exact hk

abbrev CellsHold (S : List (Addr × Value)) (w : World) : Prop := ∀ q ∈ S, w.cell? q.1 = some q.2

/-! the laws of orders, for a round's frames too -/
def noDefer (ops : Array Oper) : Bool := ops.all fun o => match o.op with | .defer .. => false | _ => true
theorem noDefer_spec {ops : Array Oper} (h : noDefer ops = true) (j : Nat) (o : Oper) (ho : ops[j]? = some o) (c : Call) : o.op ≠ .defer c := by
  intro e
  have := Array.all_eq_true_iff_forall_mem.1 h o (Array.mem_of_getElem? ho)
  simp [e] at this
theorem yields_wpOpIn {P : Program} {r : Option Nat} {n : Nat} {ops : Array Oper} {S : World → Prop} {Q : Exit → Act → World → Prop} {i : Nat} {o : Oper} {v : Value} {a : Act} (hi : ops[i]? = some o) (hy : YieldsIf P ops S o v a)
    {K : Act → World → Prop} {w : World} (hS : S w) (h : K (a.put o.dst v) w) : wpOpIn (FW r) n P ops Q i K a w := by
  unfold wpOpIn
  simp only [hi]
  rcases hy with ⟨hw, hv⟩ | ⟨hw, rfl⟩
  · simp only [hw, if_true]; exact wpIn_of_run (hv w hS) (fun _ => by simp) h
  · simp only [hw, Bool.false_eq_true, if_false]; exact ⟨fun _ _ => trivial, h⟩
theorem wpOpIn_putIf {P : Program} {r : Option Nat} {n : Nat} {ops : Array Oper} {S : World → Prop} {Q : Exit → Act → World → Prop} {j : Nat} {oi oj : Oper} {v : Value} (hj : ops[j]? = some oj) (hap : oi.apart ops oj = true)
    (hsi : ∀ cs b, oi.op ≠ .select cs b) (hsj : ∀ cs b, oj.op ≠ .select cs b) (hdj : ∀ c, oj.op ≠ .defer c)
    (hQ : ∀ c a w, Q (.panic c) (a.put oi.dst v) w → Q (.panic c) a w) {K : Act → World → Prop} {a : Act} {w : World}
    (hy : YieldsIf P ops S oi v a) (h : wpOpIn (FW r) n P ops Q j K (a.put oi.dst v) w) :
    wpOpIn (FW r) n P ops Q j (fun a' w' => YieldsIf P ops S oi v a' ∧ K (a'.put oi.dst v) w') a w := by
  obtain ⟨h1, h2, h3⟩ := Oper.apart_spec hap
  have keep : ∀ (a : Act), YieldsIf P ops S oi v a → ∀ u, YieldsIf P ops S oi v (a.put oj.dst u) := fun a hy u =>
    hy.of_same (execOp_put oi hsi a oj.dst u h3) (wanted_put oi a oj.dst u h3)
  have keepD : ∀ d, YieldsIf P ops S oi v { a with defers := d :: a.defers } := fun d => hy.of_same rfl rfl
  unfold wpOpIn at *
  simp only [hj] at *
  rw [wanted_put oj a oi.dst v h1] at h
  split
  · rename_i hw
    simp only [hw, if_true] at h
    refine ⟨fun _ _ => trivial, ?_⟩
    have h := h.2
    rw [Oper.semAt_eq _ _ _ hdj, execOp_put oj hsj a oi.dst v h1] at h
    rw [Oper.semAt_eq _ _ _ hdj]
    generalize (execOp a.eval oj).run P w = r at *
    cases r with
    | ok x w' =>
      cases x <;> simp only [Oper.uponIn] at h ⊢
      case value u => exact ⟨keep a hy u, by rw [← Act.put_comm a v u h2]; exact h⟩
      case skip => exact ⟨keep a hy _, by rw [← Act.put_comm a v undef h2]; exact h⟩
      case defer d =>
        refine ⟨keep _ (keepD d) _, ?_⟩
        rw [← Act.put_comm _ v undef h2, ← Act.put_defers]
        exact h
      case enter f args =>
        refine ⟨h.1, CallsIn.mono h.2 fun e w'' he => ?_⟩
        cases e with
        | returned u => exact ⟨keep a hy u, by rw [← Act.put_comm a v u h2]; exact he⟩
        | panicked c => exact hQ _ _ _ he
        | outgrown => exact he
      case row row args => exact ⟨h.1, RowsIn.mono h.2 fun u w'' he => ⟨keep a hy u, by rw [← Act.put_comm a v u h2]; exact he⟩⟩
      case round l f tmps assign body =>
        refine ⟨h.1, RoundIn.mono h.2 fun e w'' he => ?_⟩
        cases e with
        | returned u => exact ⟨keep a hy u, by rw [← Act.put_comm a v u h2]; exact he⟩
        | panicked c => exact hQ _ _ _ he
        | outgrown => exact he
    | halt x w' =>
      cases x <;> simp only [Oper.uponIn] at h ⊢
      case panic u => exact hQ _ _ _ h
  · rename_i hw
    simp only [hw] at h
    exact ⟨fun _ _ => trivial, keep a hy _, by rw [← Act.put_comm a v undef h2]; exact h.2⟩

def wpAnyP (r : Option Nat) (n : Nat) (P : Program) (ops : Array Oper) (anc : Nat → List Nat) (Q : Exit → Act → World → Prop) (pend : List (Nat × List (Addr × Value))) : Nat → Array Bool → Act → World → Prop
  | 0, listed, a, w => Region.ready .any ops listed = [] ∧ Q .normal a w
  | fuel + 1, listed, a, w =>
    (Region.ready .any ops listed = [] → Q .normal a w) ∧
    ∀ i ∈ Region.ready .any ops listed, wpOpIn (FW r) n P ops Q i (fun a' w' => (∀ p ∈ pend, p.1 ∉ anc i → CellsHold p.2 w → CellsHold p.2 w') ∧ wpAnyP r n P ops anc Q pend fuel (listed.setIfInBounds i true) a' w') a w
theorem wpAny_of_P {r : Option Nat} {n : Nat} {P : Program} {ops : Array Oper} {anc : Nat → List Nat} {Q : Exit → Act → World → Prop} {pend : List (Nat × List (Addr × Value))} :
    ∀ (fuel : Nat) (listed : Array Bool) (a : Act) (w : World), wpAnyP r n P ops anc Q pend fuel listed a w → wpAnyIn (FW r) n P .any ops Q fuel listed a w
  | 0, _, _, _, h => h
  | fuel + 1, _, _, _, h => ⟨h.1, fun i hi => wpOpIn_mono (fun a' w' h' => wpAny_of_P fuel _ a' w' h'.2) (h.2 i hi)⟩
theorem wpAnyP_weak {r : Option Nat} {n : Nat} {P : Program} {ops : Array Oper} {anc : Nat → List Nat} {Q : Exit → Act → World → Prop} {p : Nat × List (Addr × Value)} {pend : List (Nat × List (Addr × Value))} :
    ∀ (fuel : Nat) (listed : Array Bool) (a : Act) (w : World), wpAnyP r n P ops anc Q (p :: pend) fuel listed a w → wpAnyP r n P ops anc Q pend fuel listed a w
  | 0, _, _, _, h => h
  | fuel + 1, _, _, _, h => ⟨h.1, fun i hi => wpOpIn_mono (fun a' w' h' => ⟨fun q hq => h'.1 q (.tail _ hq), wpAnyP_weak fuel _ a' w' h'.2⟩) (h.2 i hi)⟩

theorem wpAnyP_nil {r : Option Nat} {n : Nat} {P : Program} {ops : Array Oper} {anc : Nat → List Nat} {Q : Exit → Act → World → Prop} {i : Nat} {pend : List (Nat × List (Addr × Value))} :
    ∀ (fuel : Nat) (listed : Array Bool) (a : Act) (w : World), wpAnyP r n P ops anc Q pend fuel listed a w → wpAnyP r n P ops anc Q ((i, []) :: pend) fuel listed a w
  | 0, _, _, _, h => h
  | fuel + 1, _, _, _, h => ⟨h.1, fun j hj => wpOpIn_mono (fun a' w' h' => ⟨fun q hq hn hh => by cases hq with | head => exact fun _ h => by cases h | tail _ hq => exact h'.1 q hq hn hh, wpAnyP_nil fuel _ a' w' h'.2⟩) (h.2 j hj)⟩

theorem wpAnyP_first {r : Option Nat} {n : Nat} {P : Program} {ops : Array Oper} {anc : Nat → List Nat} {Q : Exit → Act → World → Prop} {pend : List (Nat × List (Addr × Value))} {S : List (Addr × Value)}
    (hok : ancOk ops anc = true) {i : Nat} {oi : Oper} {v : Value} (hi : ops[i]? = some oi) (hsel : ∀ (j : Nat) (o : Oper) cs b, ops[j]? = some o → o.op ≠ .select cs b) (hdef : noDefer ops = true)
    (hQ : ∀ c a w, ¬ Q (.panic c) a w) :
    ∀ (fuel : Nat) (listed : Array Bool) (a : Act) (w : World), Closed anc listed →
      (∀ j oj, ops[j]? = some oj → j ≠ i → listed.getD j true = false → (∀ e ∈ oj.after, Region.binds .any e = true → e.on ≠ i) → oi.apart ops oj = true) →
      i ∈ Region.ready .any ops listed → YieldsIf P ops (CellsHold S) oi v a → CellsHold S w →
      wpAnyP r n P ops anc Q ((i, S) :: pend) fuel (listed.setIfInBounds i true) (a.put oi.dst v) w → wpAnyP r n P ops anc Q pend (fuel + 1) listed a w := by
  intro fuel
  induction fuel with
  | zero =>
    intro listed a w _ _ hr hy hS H
    refine ⟨fun h => (by rw [h] at hr; cases hr), fun j hj => ?_⟩
    by_cases hji : j = i
    · subst hji; exact yields_wpOpIn hi hy hS ⟨fun _ _ _ h => h, H⟩
    · have := ready_mono hj hji
      rw [H.1] at this
      cases this
  | succ fuel ih =>
    intro listed a w hC hfree hr hy hS H
    refine ⟨fun h => (by rw [h] at hr; cases hr), fun j hj => ?_⟩
    by_cases hji : j = i
    · subst hji; exact yields_wpOpIn hi hy hS ⟨fun _ _ _ h => h, wpAnyP_weak _ _ _ _ H⟩
    · have h1 := H.2 j (ready_mono hj hji)
      obtain ⟨hjun, oj, hoj, hall⟩ := mem_ready.1 hj
      have hun := (mem_ready.1 hr).1
      have hnot : ∀ e ∈ oj.after, Region.binds .any e = true → e.on ≠ i := fun e he hb heq => by
        have h1 := hall e he hb
        rw [heq] at h1
        rcases Nat.lt_or_ge i listed.size with h' | h'
        · simp [h'] at hun h1; rw [hun] at h1; cases h1
        · simp [Array.getElem?_eq_none h'] at h1
      have hianc : i ∉ anc j := fun hm => by
        have h1 := ready_anc hok hC hj i hm
        rcases Nat.lt_or_ge i listed.size with h' | h'
        · simp [h'] at hun h1; rw [hun] at h1; cases h1
        · simp [Array.getElem?_eq_none h'] at h1
      have h2 := wpOpIn_putIf hoj (hfree j oj hoj hji hjun hnot) (fun cs b => hsel i oi cs b hi) (fun cs b => hsel j oj cs b hoj) (noDefer_spec hdef j oj hoj) (fun c a w h => (hQ _ _ _ h).elim) hy h1
      have hfree' : ∀ k ok, ops[k]? = some ok → k ≠ i → (listed.setIfInBounds j true).getD k true = false →
          (∀ e ∈ ok.after, Region.binds .any e = true → e.on ≠ i) → oi.apart ops ok = true := fun k ok hk hki hun hno => by
        refine hfree k ok hk hki ?_ hno
        by_cases hjk : j = k
        · subst hjk; exact hjun
        · rw [getD_set_ne true hjk] at hun; exact hun
      refine wpOpIn_mono (fun a' w' h3 => ⟨fun p hp => h3.2.1 p (.tail _ hp), ih (listed.setIfInBounds j true) a' w' (hC.set hok hj) hfree' (ready_mono hr (Ne.symm hji)) h3.1 (h3.2.1 _ (.head _) hianc hS) ?_⟩) h2
      rw [Array.setIfInBounds_comm _ _ hji]
      exact h3.2.2

/-- The order 'l' is one that the edges allow; what turns memory stands alone at its turn, or forks. -/
def turns (P : Program) (o : Oper) : Bool := match kindOf P o with | .pure | .load => false | _ => true
def chk (P : Program) (ops : Array Oper) : Ord → Nat → Array Bool → Bool
  | .nil, _, listed => (Region.ready .any ops listed).isEmpty
  | .cons i l, fuel, listed => match fuel, ops[i]? with
    | fuel + 1, some o =>
      (match kindOf P o with
        | .pure | .load => Region.free .any ops listed i && (Region.ready .any ops listed).contains i
        | _ => Region.ready .any ops listed == [i]) && chk P ops l fuel (listed.setIfInBounds i true)
    | _, _ => false
  | .fork i l j l', fuel, listed => match fuel, ops[i]?, ops[j]? with
    | fuel + 1, some o, some o' => turns P o && turns P o' && Region.ready .any ops listed == [i, j] && chk P ops l fuel (listed.setIfInBounds i true) && chk P ops l' fuel (listed.setIfInBounds j true)
    | _, _, _ => false

theorem opEff_alloc {P : Program} {o : Oper} {ρ : Operand → Value} {w : World} {K : Value → World → Prop} (hk : kindOf P o = .alloc) (h : opEff P o ρ w K) :
    opEff P o ρ w fun v w' => K v w' ∧ ∃ ob, w' = w.alloc ob := by
  unfold kindOf at hk
  unfold opEff at h ⊢
  split at hk <;> try cases hk
  all_goals first
    | (exfalso; split at hk <;> cases hk; done)
    | skip
  all_goals
    rename_i heq
    simp only [heq] at h ⊢
  · split at h <;> try exact h.elim
    rename_i hi
    try simp only [hi]
    split at h <;> try exact h.elim
    rename_i hz
    try simp only [hz]
    exact ⟨h, _, rfl⟩
  · exact ⟨h, _, rfl⟩
  · split at h <;> try exact h.elim
    rename_i hu
    try simp only [hu]
    split at h <;> try exact h.elim
    rename_i hi
    try simp only [hi]
    split at h <;> try exact h.elim
    rename_i hz
    try simp only [hz]
    split at h <;> try exact h.elim
    rename_i hl
    try rw [if_neg hl]
    split at h
    · rename_i hp
      split at h
      · rename_i hx
        split at h <;> try exact h.elim
        rename_i h1
        try simp only [hp, hx, h1, if_true]
        exact ⟨h.1, h.2, _, rfl⟩
      · split at h <;> try exact h.elim
        exact ⟨h, _, rfl⟩
    · split at h <;> try exact h.elim
      exact ⟨h, _, rfl⟩

theorem alloc_cells {w : World} {ob : Obj} {S : List (Addr × Value)} (h : CellsHold S w) : CellsHold S (w.alloc ob) := by
  intro q hq
  have h1 := h q hq
  exact (World.cell?_of_block (w := w) (Below.heap_alloc w ob _ (World.block_lt_of_cell? w q.1 h1))).trans h1

theorem oneW_turns {r : Option Nat} {n : Nat} {P : Program} (hp : Plain P) {ops : Array Oper} {anc : Nat → List Nat} {Q : Exit → Act → World → Prop} {i : Nat} {o : Oper} {pend : List (Nat × List (Addr × Value))} {a₀ a : Act} {w : World} {k : List (Nat × List (Addr × Value)) → Act → World → Prop} {K : Act → World → Prop}
    (ho : ops[i]? = some o) (ht : turns P o = true) (hA : Agree (modsOps ops) a₀ a) (h : oneW P ops anc i pend a w k) (hk : ∀ a' w', Agree (modsOps ops) a₀ a' → k pend a' w' → K a' w') :
    wpOpIn (FW r) n P ops Q i (fun a' w' => (∀ p ∈ pend, p.1 ∉ anc i → CellsHold p.2 w → CellsHold p.2 w') ∧ K a' w') a w := by
  simp only [oneW, ho] at h
  unfold turns at ht
  rcases guardW_sound (o := o) h with ⟨hw, h⟩ | ⟨hw, h⟩
  · split at h
    · rename_i hkd; rw [hkd] at ht; cases ht
    · rename_i hkd; rw [hkd] at ht; cases ht
    · rename_i hkd
      unfold wpOpIn
      simp only [ho, hw, if_true]
      refine (opEff_sound hp (opEff_alloc hkd h) ?_)
      rintro v w' ⟨hkv, ob, rfl⟩
      exact ⟨fun p _ _ hh => alloc_cells hh, hk _ _ (hA.put (mem_modsOps ho) _) hkv⟩
    · unfold wpOpIn
      simp only [ho, hw, if_true]
      refine (opEff_sound hp h ?_)
      intro v w' hkv
      obtain ⟨h1, h2⟩ := stab_sound hkv
      exact ⟨fun p hp hn _ => h1 p hp hn, hk _ _ (hA.put (mem_modsOps ho) _) h2⟩
  · unfold wpOpIn
    simp only [ho, hw, Bool.false_eq_true, if_false]
    exact ⟨fun _ _ => trivial, fun _ _ _ h => h, hk _ _ (hA.put (mem_modsOps ho) _) h⟩

theorem canW_sound {r : Option Nat} {n : Nat} {P : Program} (hp : Plain P) {ops : Array Oper} {anc : Nat → List Nat} {R : Act → World → Prop} {Q : Exit → Act → World → Prop} (hok : ancOk ops anc = true) (hsel : Region.noSelect ops = true) (hdef : noDefer ops = true)
    (hQ : ∀ c a w, ¬ Q (.panic c) a w) {a₀ : Act} (hR : ∀ a w, Agree (modsOps ops) a₀ a → R a w → Q .normal a w) :
    ∀ (l : Ord) (fuel : Nat) (listed : Array Bool) (pend : List (Nat × List (Addr × Value))) (a : Act) (w : World), Agree (modsOps ops) a₀ a → Closed anc listed → chk P ops l fuel listed = true →
      canW P ops anc R l pend a w → wpAnyP r n P ops anc Q pend fuel listed a w := by
  intro l
  induction l with
  | nil =>
    intro fuel listed pend a w hA hC hchk h
    have hr : Region.ready .any ops listed = [] := by simpa [chk] using hchk
    cases fuel with
    | zero => exact ⟨hr, hR _ _ hA h⟩
    | succ f => exact ⟨fun _ => hR _ _ hA h, by rw [hr]; simp⟩
  | fork i l j l' ih ih' =>
    intro fuel listed pend a w hA hC hchk h
    unfold chk at hchk
    split at hchk <;> try cases hchk
    rename_i f o o' ho ho'
    simp only [Bool.and_eq_true, beq_iff_eq] at hchk
    obtain ⟨⟨⟨⟨t1, t2⟩, hr⟩, c1⟩, c2⟩ := hchk
    refine ⟨fun h0 => (by rw [hr] at h0; cases h0), ?_⟩
    intro q hq
    rw [hr] at hq
    simp only [List.mem_cons, List.not_mem_nil, or_false] at hq
    rcases hq with rfl | rfl
    · exact oneW_turns hp ho t1 hA h.1 fun a' w' hA' hk => ih f _ _ _ _ hA' (hC.set hok (by rw [hr]; simp)) c1 hk
    · exact oneW_turns hp ho' t2 hA h.2 fun a' w' hA' hk => ih' f _ _ _ _ hA' (hC.set hok (by rw [hr]; simp)) c2 hk
  | cons i l ih =>
    intro fuel listed pend a w hA hC hchk h
    unfold chk at hchk
    split at hchk <;> try cases hchk
    rename_i f o ho
    simp only [Bool.and_eq_true] at hchk
    obtain ⟨hkind, hrest⟩ := hchk
    have h' := h
    simp only [canW, oneW, ho] at h
    have first : ∀ (S : List (Addr × Value)) (v : Value), Region.free .any ops listed i = true → (Region.ready .any ops listed).contains i = true → YieldsIf P ops (CellsHold S) o v a → CellsHold S w →
        wpAnyP r n P ops anc Q ((i, S) :: pend) f (listed.setIfInBounds i true) (a.put o.dst v) w → wpAnyP r n P ops anc Q pend (f + 1) listed a w := by
      intro S v hf hr hy hS hH
      exact wpAnyP_first hok ho (Region.noSelect_spec hsel) hdef hQ f listed a w hC (Region.free_spec ho hf) (by simpa using hr) hy hS hH
    have hin : i ∈ Region.ready .any ops listed := by
      split at hkind
      · simp only [Bool.and_eq_true] at hkind; simpa using hkind.2
      · simp only [Bool.and_eq_true] at hkind; simpa using hkind.2
      · have : Region.ready .any ops listed = [i] := by simpa using hkind
        rw [this]; simp
    have hC' := hC.set hok hin
    by_cases ht : turns P o = true
    · have hr : Region.ready .any ops listed = [i] := by
        unfold turns at ht
        split at hkind
        · rename_i e; rw [e] at ht; cases ht
        · rename_i e; rw [e] at ht; cases ht
        · simpa using hkind
      refine ⟨fun h0 => (by rw [hr] at h0; cases h0), ?_⟩
      rw [hr]
      intro j hj
      rw [List.mem_singleton] at hj
      subst hj
      exact oneW_turns hp ho ht hA h' fun a' w' hA' hk => ih f _ _ _ _ hA' hC' hrest hk
    rcases guardW_sound (o := o) h with ⟨hw, h⟩ | ⟨hw, h⟩
    · split at h
      · rename_i hk
        rw [hk] at hkind
        simp only [Bool.and_eq_true] at hkind
        obtain ⟨v, hkv, hr⟩ := opPure_sound h
        refine first [] v hkind.1 hkind.2 (.inl ⟨hw, fun w' _ => hr w'⟩) (by simp) ?_
        exact wpAnyP_nil _ _ _ _ (ih f _ _ _ _ (hA.put (mem_modsOps ho) _) hC' hrest hkv)
      · rename_i hk
        rw [hk] at hkind
        simp only [Bool.and_eq_true] at hkind
        split at h <;> try exact h.elim
        rename_i t x hop
        obtain ⟨v, S, hkv, hS, hr⟩ := opLoad_sound h
        refine first S v hkind.1 hkind.2 (.inl ⟨hw, fun w' hS' => run_opLoad hop (hr w' hS')⟩) hS ?_
        exact ih f _ _ _ _ (hA.put (mem_modsOps ho) _) hC' hrest hkv
      · rename_i hk
        exact absurd (by unfold turns; rw [hk]) ht
      · rename_i hk
        exact absurd (by unfold turns; rw [hk]) ht
    · have hh := ih f _ _ _ _ (hA.put (mem_modsOps ho) _) hC' hrest h
      have hk : kindOf P o = .pure ∨ kindOf P o = .load := by
        unfold turns at ht
        split at ht
        · rename_i e; exact .inl e
        · rename_i e; exact .inr e
        · exact absurd rfl ht
      have hk2 : Region.free .any ops listed i = true ∧ (Region.ready .any ops listed).contains i = true := by
        rcases hk with hk | hk <;> rw [hk] at hkind <;> simpa only [Bool.and_eq_true] using hkind
      exact first [] undef hk2.1 hk2.2 (.inr ⟨hw, rfl⟩) (by simp) (wpAnyP_nil _ _ _ _ hh)

/-- A statement's operations. -/
def regW (P : Program) (ops : Array Oper) (draw : Bool) (anc : List (List Nat)) (l : Ord) (Q : Act → World → Prop) (a : Act) (w : World) : Prop :=
  match draw with
  | false => seqW P ops Q (List.range ops.size) a w
  | true => match ancOk ops (fun j => anc.getD j []) && Region.noSelect ops && noDefer ops && chk P ops l ops.size (Array.replicate ops.size false) with
    | true => canW P ops (fun j => anc.getD j []) Q l [] a w.drew
    | false => False

theorem regW_sound {r : Option Nat} {n : Nat} {P : Program} (hp : Plain P) (hm : P.follows .mixedOrders = true) {id : Nat} {ops : Array Oper} {draw : Bool} {anc : List (List Nat)} {l : Ord} {R : Act → World → Prop}
    {a : Act} {w : World} (h : regW P ops draw anc l R a w) : (Code.region id ops draw).wpIn (FW r) n P (fun e a' w' => e = .normal ∧ Agree (modsOps ops) a a' ∧ R a' w') a w := by
  cases draw with
  | false => exact wpIn_region (seqW_sound hp (a₀ := a) (fun a' w' hA hr => ⟨rfl, hA, hr⟩) _ a w (Agree.refl _ _) h)
  | true =>
    simp only [regW] at h
    split at h <;> try exact h.elim
    rename_i hc
    simp only [Bool.and_eq_true] at hc
    refine wpIn_region_any hm (wpAny_of_P _ _ _ _ (canW_sound hp hc.1.1.1 hc.1.1.2 hc.1.2 (fun c a w h => (by cases h.1)) (a₀ := a) (fun a' w' hA hr => ⟨rfl, hA, hr⟩) l ops.size _ [] a w.drew (Agree.refl _ _) ?_ hc.2 h))
    intro k hk
    simp only [Array.getD_eq_getD_getElem?, Array.getElem?_replicate] at hk
    split at hk <;> simp at hk

end Go.Sp
