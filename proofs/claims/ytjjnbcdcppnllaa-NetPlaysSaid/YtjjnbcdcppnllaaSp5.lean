/- A verified symbolic compile of the translated Go code: part 5: statements, loops, functions. No conditions. -/
import Derived.Test.YtjjnbcdcppnllaaSp4
import Derived.Test.YtjjnbcdcppnllaaSp6
import Derived.Scope
set_option linter.unusedVariables false
set_option linter.unusedSimpArgs false
set_option maxRecDepth 100000
namespace Go.Sp
open Go.RowKit

/-- What is said beside the code: the order of a region that draws it, a loop's own slots, a place where ways meet. -/
inductive Ann where
  | none
  | seq (a b : Ann)
  | one (a : Ann)
  | draw (anc : List (List Nat)) (order : Ord)
  | loop (slots : List (Tmp × Shape)) (a : Ann)
  | meet (slots : List (Tmp × Shape)) (a b : Ann)
  | range (shapes : List Shape) (a b : Ann)

/-- Where a piece of code may lead. -/
structure Kont where
  norm : Act → World → Prop
  exits : List (Nat × (Act → World → Prop))
  ret : Act → World → Prop

def exitsOf : List (Nat × (Act → World → Prop)) → Nat → Act → World → Prop
  | [], _, _, _ => False
  | (i, q) :: l, id, a, w => if id = i then q a w else exitsOf l id a w
def Kont.post (κ : Kont) : Exit → Act → World → Prop
  | .normal, a, w => κ.norm a w
  | .exit id, a, w => exitsOf κ.exits id a w
  | .ret, a, w => κ.ret a w
  | _, _, _ => False

def CurT (β : Type) : List (Tmp × Shape) → Type
  | [] => β
  | (_, .int _) :: s => Int → CurT β s
  | (_, .bool) :: s => Bool → CurT β s
  | (_, .ptr) :: s => Option Addr → CurT β s
  | (_, .slice) :: s => Option Addr → Nat → Nat → CurT β s
  | (_, .str) :: s => ByteArray → CurT β s
  | (_, .map) :: s => Option Nat → CurT β s
  | (_, .agg) :: s => Array Value → CurT β s
  | (_, .any) :: s => Value → CurT β s
  | (_, .adr) :: s => Addr → CurT β s
  | (_, .func) :: s => Fn → Array Value → Array Value → CurT β s

/-- A relation applied to what the slots hold. -/
def appC {β : Type} : (s : List (Tmp × Shape)) → CurT β s → Act → (β → Prop) → Prop
  | [], f, _, K => K f
  | (t, .int k) :: s, f, a, K => match a.tmps.getD t undef with | .int j n => if j = k then appC s (f n) a K else False | _ => False
  | (t, .bool) :: s, f, a, K => match a.tmps.getD t undef with | .bool n => appC s (f n) a K | _ => False
  | (t, .ptr) :: s, f, a, K => match a.tmps.getD t undef with | .pointer n => appC s (f n) a K | _ => False
  | (t, .slice) :: s, f, a, K => match a.tmps.getD t undef with | .slice p l c => appC s (f p l c) a K | _ => False
  | (t, .str) :: s, f, a, K => match a.tmps.getD t undef with | .string n => appC s (f n) a K | _ => False
  | (t, .map) :: s, f, a, K => match a.tmps.getD t undef with | .map n => appC s (f n) a K | _ => False
  | (t, .agg) :: s, f, a, K => match a.tmps.getD t undef with | .agg n => appC s (f n) a K | _ => False
  | (t, .any) :: s, f, a, K => appC s (f (a.tmps.getD t undef)) a K
  | (t, .adr) :: s, f, a, K => match a.tmps.getD t undef with | .pointer (some n) => appC s (f n) a K | _ => False
  | (t, .func) :: s, f, a, K => match a.tmps.getD t undef with | .func x y z => appC s (f x y z) a K | _ => False

/-- For all that the slots may hold. -/
def allC {β : Type} : (s : List (Tmp × Shape)) → CurT β s → Act → (β → Act → Prop) → Prop
  | [], f, a, K => K f a
  | (t, .int k) :: s, f, a, K => ∀ n : Int, allC s (f n) (a.put (some t) (.int k n)) K
  | (t, .bool) :: s, f, a, K => ∀ n : Bool, allC s (f n) (a.put (some t) (.bool n)) K
  | (t, .ptr) :: s, f, a, K => ∀ n : Option Addr, allC s (f n) (a.put (some t) (.pointer n)) K
  | (t, .slice) :: s, f, a, K => ∀ (p : Option Addr) (l c : Nat), allC s (f p l c) (a.put (some t) (.slice p l c)) K
  | (t, .str) :: s, f, a, K => ∀ n : ByteArray, allC s (f n) (a.put (some t) (.string n)) K
  | (t, .map) :: s, f, a, K => ∀ n : Option Nat, allC s (f n) (a.put (some t) (.map n)) K
  | (t, .agg) :: s, f, a, K => ∀ n : Array Value, allC s (f n) (a.put (some t) (.agg n)) K
  | (t, .any) :: s, f, a, K => ∀ n : Value, allC s (f n) (a.put (some t) n) K
  | (t, .adr) :: s, f, a, K => ∀ n : Addr, allC s (f n) (a.put (some t) (.pointer (some n))) K
  | (t, .func) :: s, f, a, K => ∀ (x : Fn) (y z : Array Value), allC s (f x y z) (a.put (some t) (.func x y z)) K

/-- The slots that a piece of code turns. -/
def mods : Code → List Tmp
  | .region _ ops _ => modsOps ops
  | .seq a b => mods a ++ mods b
  | .cond _ a b => mods a ++ mods b
  | .block _ c => mods c
  | .loop c => mods c
  | .scope c => mods c
  | _ => []

/-- A state in which some slots hold whatever. -/
def smear (u : Nat → Value) : List Tmp → Act → Act
  | [], a => a
  | t :: l, a => smear u l (a.put (some t) (u t))

/-! ### ranges over a function -/
/-- The block for the deferred calls of a loop's rounds: there are none. -/
abbrev markH (D : Nat) : HP := ob D (.deferred (some []))
/-- An iterator: 'gf', at what it has captured, hands 'xs' to whatever yield it is given, one behind the other, till there are no more or yield says 'no more'; what else there is stays. -/
def IterC (P : Program) (w₀ : World) (gf : FuncId) (lb : Array Value) (Pre : Nat → HP) (xs : List (Array Value)) : Prop :=
  ∀ (f : Fn) (b c : Array Value) (B : Nat → HP) (Bx : HP), (∀ X, okFn f X ↔ X) → (∀ j w, Sat w₀ (B j) w → Sat w₀ (Pre j) w) →
    (∀ k x, xs[k]? = some x → ∀ G w, Sat w₀ (B k * G) w → callV P f b c x w fun v w' => (v = .bool true ∧ Sat w₀ (B (k + 1) * G) w') ∨ (v = .bool false ∧ Sat w₀ (Bx * G) w')) →
    ∀ F w, Sat w₀ (B 0 * F) w → call P gf (#[.func f b c] ++ lb) w fun _ w' => Sat w₀ (B xs.length * F) w' ∨ Sat w₀ (Bx * F) w'
/-- The same, where what comes is known when it comes alone: 'Y k x H': in round k x may come, and with it what H holds, which is the consumer's from there on. -/
def IterG (P : Program) (w₀ : World) (gf : FuncId) (lb : Array Value) (Pre : Nat → HP) (n : Nat) (Y : Nat → Array Value → HP → Prop) : Prop :=
  ∀ (f : Fn) (b c : Array Value) (B : Nat → HP) (Bx : HP), (∀ X, okFn f X ↔ X) → (∀ w₀ j w, Sat w₀ (B j) w → Sat w₀ (Pre j) w) →
    (∀ k x H, k < n → Y k x H → ∀ G w, Sat w₀ (B k * (H * G)) w → callV P f b c x w fun v w' => (v = .bool true ∧ Sat w₀ (B (k + 1) * G) w') ∨ (v = .bool false ∧ Sat w₀ (Bx * G) w')) →
    ∀ F w, Sat w₀ (B 0 * F) w → call P gf (#[.func f b c] ++ lb) w fun _ w' => Sat w₀ (B n * F) w' ∨ Sat w₀ (Bx * F) w'
theorem IterC.gen {P : Program} {w₀ : World} {gf : FuncId} {lb : Array Value} {Pre : Nat → HP} {xs : List (Array Value)} (h : IterC P w₀ gf lb Pre xs) : IterG P w₀ gf lb Pre xs.length (fun k x H => xs[k]? = some x ∧ H = emp) :=
  fun f b c B Bx hok hB hy => h f b c B Bx hok (hB w₀) fun k x hx G w hs => hy k x emp (List.getElem?_eq_some_iff.1 hx).1 ⟨hx, rfl⟩ G w (hs.with_emp.perm (by ac_rfl))
/-- 'for .. := range v': B: the body, told what comes, where it goes on, where it is left, and the round's beginning, which turns the loop's record alone; N, J: behind the loop. -/
def rangeW (P : Program) (v : Value) (n : Nat) (B : Array Value → (World → Prop) → (Code → World → Prop) → (World → (World → Prop) → Prop) → World → Prop) (N : Nat → World → Prop) (J : Nat → Code → World → Prop) (w : World) : Prop :=
  ∃ (w₀ : World) (gf : FuncId) (lb : Array Value) (m : Nat) (Y : Nat → Array Value → HP → Prop) (A : Nat → HP) (Ax : Code → HP),
    v = .func (.func gf) #[] lb ∧ (∃ fn c, P.funcs[gf]? = some fn ∧ fn.body = some c) ∧ Sat w₀ (A 0) w ∧ (∀ k x H, k < m → Y k x H → x.size = n) ∧ IterG P w₀ gf lb A m Y ∧
    (∀ k x H, k < m → Y k x H → ∀ G G' T w, (∀ H w K, Sat w₀ (H * G) w → (∀ w', Sat w₀ (H * G') w' → K w') → T w K) → Sat w₀ (A k * (H * G)) w →
      B x (fun w' => Sat w₀ (A (k + 1) * G') w') (fun c w' => Sat w₀ (Ax c * G') w') T w) ∧
    (∀ D w', Sat w₀ (markH D * A m) w' → N D w') ∧ (∀ D c w', Sat w₀ (markH D * Ax c) w' → J D c w')
/-- A range over what is known ahead. -/
theorem rangeC_ok {P : Program} {v : Value} {n : Nat} {B : Array Value → (World → Prop) → (Code → World → Prop) → (World → (World → Prop) → Prop) → World → Prop} {N : Nat → World → Prop} {J : Nat → Code → World → Prop} {w : World}
    (h : ∃ (w₀ : World) (gf : FuncId) (lb : Array Value) (xs : List (Array Value)) (A : Nat → HP) (Ax : Code → HP),
      v = .func (.func gf) #[] lb ∧ (∃ fn c, P.funcs[gf]? = some fn ∧ fn.body = some c) ∧ Sat w₀ (A 0) w ∧ (∀ x ∈ xs, x.size = n) ∧ IterC P w₀ gf lb A xs ∧
      (∀ k x, xs[k]? = some x → ∀ G G' T w, (∀ H w K, Sat w₀ (H * G) w → (∀ w', Sat w₀ (H * G') w' → K w') → T w K) → Sat w₀ (A k * G) w →
        B x (fun w' => Sat w₀ (A (k + 1) * G') w') (fun c w' => Sat w₀ (Ax c * G') w') T w) ∧
      (∀ D w', Sat w₀ (markH D * A xs.length) w' → N D w') ∧ (∀ D c w', Sat w₀ (markH D * Ax c) w' → J D c w')) : rangeW P v n B N J w := by
  obtain ⟨w₀, gf, lb, xs, A, Ax, h1, h2, h3, h4, h5, h6, h7, h8⟩ := h
  exact ⟨w₀, gf, lb, xs.length, _, A, Ax, h1, h2, h3, fun k x H _ hY => h4 x (List.mem_of_getElem? hY.1), h5.gen, fun k x H _ hY G G' T w hT hs => h6 k x hY.1 G G' T w hT (by
    have h := hs
    rw [hY.2] at h
    exact (h.perm (B := emp * (A k * G)) (by ac_rfl)).of_emp), h7, h8⟩
/-- Where a jump leads. -/
def jmp (c : Code) (r : Prop) (es : List (Nat × Prop)) : Prop :=
  match c with
  | .ret => r
  | .exit id => go es id
  | _ => False
where go : List (Nat × Prop) → Nat → Prop
  | [], _ => False
  | (i, p) :: l, id => if id = i then p else go l id
/-- Does it hold a range over a function? -/
def hasR : Code → Bool
  | .seq a b => hasR a || hasR b
  | .cond _ a b => hasR a || hasR b
  | .block _ c => hasR c
  | .loop c => hasR c
  | .scope c => hasR c
  | .rangeFunc .. => true
  | _ => false
def exitIds : Code → List Nat
  | .seq a b => exitIds a ++ exitIds b
  | .cond _ a b => exitIds a ++ exitIds b
  | .block _ c => exitIds c
  | .loop c => exitIds c
  | .scope c => exitIds c
  | .exit id => [id]
  | _ => []
def hasRet : Code → Bool
  | .seq a b => hasRet a || hasRet b
  | .cond _ a b => hasRet a || hasRet b
  | .block _ c => hasRet c
  | .loop c => hasRet c
  | .scope c => hasRet c
  | .ret => true
  | _ => false
def keepExits (ids : List Nat) {α : Type} : List (Nat × α) → List (Nat × α)
  | [] => []
  | (i, x) :: l => match ids.contains i with | true => (i, x) :: keepExits ids l | false => keepExits ids l

/-- 'top': in a function's frame; else in a round's. -/
def cmp (P : Program) (top : Bool) : Ann → Code → Kont → Act → World → Prop
  | _, .skip, κ, a, w => κ.norm a w
  | n, .region _ ops draw, κ, a, w => match n with
    | .draw anc l => regW P ops draw anc l κ.norm a w
    | _ => regW P ops draw [] .nil κ.norm a w
  | n, .seq x y, κ, a, w => match n with
    | .seq n₁ n₂ => cmp P top n₁ x { κ with norm := fun a w => cmp P top n₂ y κ a w } a w
    | .meet s n₁ n₂ => match hasR x with
      | true => False
      | false => ∃ J : CurT (World → Prop) s,
        cmp P top n₁ x { κ with norm := fun a w => appC s J a fun j => j w } a w ∧
        ∀ u : Nat → Value, allC s J (smear u (mods x) a) fun j a => ∀ w, j w → cmp P top n₂ y κ a w
    | _ => cmp P top .none x { κ with norm := fun a w => cmp P top .none y κ a w } a w
  | n, .cond c x y, κ, a, w => match a.eval c with
    | .bool b => match n with
      | .seq n₁ n₂ => br b (cmp P top n₁ x κ a w) (cmp P top n₂ y κ a w)
      | _ => br b (cmp P top .none x κ a w) (cmp P top .none y κ a w)
    | _ => False
  | n, .block id c, κ, a, w => match n with
    | .one n => cmp P top n c { κ with exits := (id, κ.norm) :: κ.exits } a w
    | _ => cmp P top .none c { κ with exits := (id, κ.norm) :: κ.exits } a w
  | _, .exit id, κ, a, w => exitsOf κ.exits id a w
  | _, .ret, κ, a, w => κ.ret a w
  | n, .loop c, κ, a, w => match n with
    | .loop s n => match hasR c with
      | true => ∃ I : CurT (List Deferred → World → Nat → Prop) s,
        (∃ m, appC s I a fun i => i a.defers w m) ∧
        ∀ (u : Nat → Value) (ds : List Deferred), allC s I (smear u (mods c) { a with defers := ds }) fun i a => ∀ w m, i ds w m →
          cmp P top n c { κ with norm := fun a' w' => ∃ m', m' < m ∧ appC s I a' fun i => i a'.defers w' m' } a w
      | false => ∃ I : CurT (World → Nat → Prop) s,
        (∃ m, appC s I a fun i => i w m) ∧
        ∀ u : Nat → Value, allC s I (smear u (mods c) a) fun i a => ∀ w m, i w m →
          cmp P top n c { κ with norm := fun a' w' => ∃ m', m' < m ∧ appC s I a' fun i => i w' m' } a w
    | _ => False
  | n, .rangeFunc g ps assign body, κ, a, w => match n with
    | .range shs n0 n => match top with
      | true => rangeW P (a.eval g) ps.size
        (fun xs N J T w => exC shs fun vs => xs = vs.toArray ∧
          cmp P false n0 assign { norm := fun a' w => T w fun w => cmp P false n body { norm := fun _ w => N w, exits := (keepExits (exitIds body) κ.exits).map fun (i, _) => (i, fun _ w => J (.exit i) w), ret := fun _ w => J .ret w } a' w, exits := [], ret := fun _ _ => False }
            { tmps := (ps.zip vs.toArray).foldl (fun t (p, v) => t.setIfInBounds p v) a.tmps, defers := [] } w)
        (fun D w => κ.norm { a with defers := { target := .collected D, args := #[] } :: a.defers } w)
        (fun D c w => jmp c (match hasRet body with | true => κ.ret { a with defers := { target := .collected D, args := #[] } :: a.defers } w | false => False)
          ((keepExits (exitIds body) κ.exits).map fun (i, q) => (i, q { a with defers := { target := .collected D, args := #[] } :: a.defers } w))) w
      | false => False
    | _ => False
  | _, .label _, κ, a, w => κ.norm a w
  | n, .scope c, κ, a, w => match top with
    | true => match n with
      | .one n => cmp P true n c κ a w
      | _ => cmp P true .none c κ a w
    | false => False
  | _, _, _, _, _ => False

/-! ### soundness -/
theorem smear_size (u : Nat → Value) : ∀ (L : List Tmp) (a : Act), (smear u L a).tmps.size = a.tmps.size
  | [], _ => rfl
  | t :: L, a => (smear_size u L _).trans (by simp [Act.put])
theorem smear_defers (u : Nat → Value) : ∀ (L : List Tmp) (a : Act), (smear u L a).defers = a.defers
  | [], _ => rfl
  | t :: L, a => (smear_defers u L _).trans rfl
theorem smear_get (u : Nat → Value) : ∀ (L : List Tmp) (a : Act) (t : Nat), (smear u L a).tmps[t]? = if t ∈ L ∧ t < a.tmps.size then some (u t) else a.tmps[t]?
  | [], _, _ => by simp [smear]
  | x :: L, a, t => by
    simp only [smear]
    rw [smear_get u L]
    simp only [Act.put, Array.size_setIfInBounds, Array.getElem?_setIfInBounds, List.mem_cons]
    by_cases h1 : t ∈ L <;> by_cases h2 : t < a.tmps.size <;> by_cases h3 : x = t
    all_goals (try subst h3)
    all_goals simp_all
    all_goals (intro h; exact absurd h.symm h3)
theorem smear_eq {L : List Tmp} {a b : Act} (h : Agree L a b) : smear (fun t => b.tmps.getD t undef) L a = b := by
  have hd := (smear_defers (fun t => b.tmps.getD t undef) L a).trans h.defers.symm
  have ht : (smear (fun t => b.tmps.getD t undef) L a).tmps = b.tmps := by
    apply Array.ext_getElem?
    intro t
    rw [smear_get]
    split
    · rename_i hh
      have : t < b.tmps.size := by rw [h.size]; exact hh.2
      simp [this]
    · rename_i hh
      by_cases hL : t ∈ L
      · have : ¬ t < a.tmps.size := fun x => hh ⟨hL, x⟩
        rw [Array.getElem?_eq_none (by omega), Array.getElem?_eq_none (by rw [h.size]; omega)]
      · exact (h.tmps t hL).symm
  cases hs : smear (fun t => b.tmps.getD t undef) L a with
  | mk x y =>
    rw [hs] at hd ht
    cases b
    simp only at hd ht
    rw [hd, ht]

theorem put_getD {a : Act} {t : Nat} {v : Value} (h : a.tmps.getD t undef = v) (hv : v ≠ undef) : a.put (some t) v = a := by
  refine put_same ?_
  rw [Array.getD_eq_getD_getElem?] at h
  cases hx : a.tmps[t]? with
  | none => rw [hx] at h; exact absurd h.symm hv
  | some x => rw [hx] at h; simp at h; rw [h]
theorem put_getD_any {a : Act} {t : Nat} : a.put (some t) (a.tmps.getD t undef) = a := by
  cases hx : a.tmps[t]? with
  | none =>
    have : a.tmps.size ≤ t := by simpa using hx
    cases a
    simp only [Act.put, Act.mk.injEq, and_true]
    exact Array.setIfInBounds_eq_of_size_le this
  | some x => exact put_same (by rw [hx, Array.getD_eq_getD_getElem?, hx]; rfl)

theorem allC_appC {β : Type} : ∀ (s : List (Tmp × Shape)) {f : CurT β s} {a : Act} {G : β → Prop} {K : β → Act → Prop}, allC s f a K → appC s f a G → ∃ b, G b ∧ K b a
  | [], f, a, G, K, h, g => ⟨f, g, h⟩
  | (t, .int k) :: s, f, a, G, K, h, g => by
    simp only [appC] at g
    split at g <;> try exact g.elim
    rename_i j n hv
    split at g <;> try exact g.elim
    rename_i hj
    subst hj
    have := h n
    rw [put_getD hv (by simp [undef])] at this
    exact allC_appC s this g
  | (t, .bool) :: s, f, a, G, K, h, g => by
    simp only [appC] at g
    split at g <;> try exact g.elim
    rename_i n hv
    have := h n
    rw [put_getD hv (by simp [undef])] at this
    exact allC_appC s this g
  | (t, .ptr) :: s, f, a, G, K, h, g => by
    simp only [appC] at g
    split at g <;> try exact g.elim
    rename_i n hv
    have := h n
    rw [put_getD hv (by simp [undef])] at this
    exact allC_appC s this g
  | (t, .slice) :: s, f, a, G, K, h, g => by
    simp only [appC] at g
    split at g <;> try exact g.elim
    rename_i p l c hv
    have := h p l c
    rw [put_getD hv (by simp [undef])] at this
    exact allC_appC s this g
  | (t, .adr) :: s, f, a, G, K, h, g => by
    simp only [appC] at g
    split at g <;> try exact g.elim
    rename_i n hv
    have := h n
    rw [put_getD hv (by simp [undef])] at this
    exact allC_appC s this g
  | (t, .func) :: s, f, a, G, K, h, g => by
    simp only [appC] at g
    split at g <;> try exact g.elim
    rename_i x y z hv
    have := h x y z
    rw [put_getD hv (by simp [undef])] at this
    exact allC_appC s this g
  | (t, .str) :: s, f, a, G, K, h, g => by
    simp only [appC] at g
    split at g <;> try exact g.elim
    rename_i n hv
    have := h n
    rw [put_getD hv (by simp [undef])] at this
    exact allC_appC s this g
  | (t, .map) :: s, f, a, G, K, h, g => by
    simp only [appC] at g
    split at g <;> try exact g.elim
    rename_i n hv
    have := h n
    rw [put_getD hv (by simp [undef])] at this
    exact allC_appC s this g
  | (t, .agg) :: s, f, a, G, K, h, g => by
    simp only [appC] at g
    split at g <;> try exact g.elim
    rename_i n hv
    have := h n
    rw [put_getD hv (by simp [undef])] at this
    exact allC_appC s this g
  | (t, .any) :: s, f, a, G, K, h, g => by
    simp only [appC] at g
    have := h (a.tmps.getD t undef)
    rw [put_getD_any] at this
    exact allC_appC s this g

theorem appC_mono {β : Type} : ∀ (s : List (Tmp × Shape)) {f : CurT β s} {a : Act} {G G' : β → Prop}, (∀ b, G b → G' b) → appC s f a G → appC s f a G'
  | [], f, a, G, G', hh, g => hh _ g
  | (t, .int k) :: s, f, a, G, G', hh, g => by
    simp only [appC] at g ⊢
    split at g <;> try exact g.elim
    split at g <;> try exact g.elim
    rename_i h
    rw [if_pos h]
    exact appC_mono s hh g
  | (t, .bool) :: s, f, a, G, G', hh, g => by
    simp only [appC] at g ⊢
    split at g <;> try exact g.elim
    exact appC_mono s hh g
  | (t, .ptr) :: s, f, a, G, G', hh, g => by
    simp only [appC] at g ⊢
    split at g <;> try exact g.elim
    exact appC_mono s hh g
  | (t, .slice) :: s, f, a, G, G', hh, g => by
    simp only [appC] at g ⊢
    split at g <;> try exact g.elim
    exact appC_mono s hh g
  | (t, .str) :: s, f, a, G, G', hh, g => by
    simp only [appC] at g ⊢
    split at g <;> try exact g.elim
    exact appC_mono s hh g
  | (t, .map) :: s, f, a, G, G', hh, g => by
    simp only [appC] at g ⊢
    split at g <;> try exact g.elim
    exact appC_mono s hh g
  | (t, .agg) :: s, f, a, G, G', hh, g => by
    simp only [appC] at g ⊢
    split at g <;> try exact g.elim
    exact appC_mono s hh g
  | (t, .func) :: s, f, a, G, G', hh, g => by
    simp only [appC] at g ⊢
    split at g <;> try exact g.elim
    exact appC_mono s hh g
  | (t, .adr) :: s, f, a, G, G', hh, g => by
    simp only [appC] at g ⊢
    split at g <;> try exact g.elim
    exact appC_mono s hh g
  | (t, .any) :: s, f, a, G, G', hh, g => by
    simp only [appC] at g ⊢
    exact appC_mono s hh g

theorem least {p : Nat → Prop} (h : ∃ m, p m) : ∃ m, p m ∧ ∀ k, p k → m ≤ k := by
  obtain ⟨m, hm⟩ := h
  induction m using Nat.strongRecOn with
  | _ m ih =>
    by_cases hx : ∃ k, k < m ∧ p k
    · obtain ⟨k, hk, hp⟩ := hx
      exact ih k hk hp
    · exact ⟨m, hm, fun k hk => Nat.le_of_not_lt fun hlt => hx ⟨k, hlt, hk⟩⟩

/-- Two states that are one outside of some slots; the deferred calls too, where no range over a function was come to. -/
structure AgreeR (L : List Tmp) (r : Bool) (a b : Act) : Prop where
  defers : r = false → b.defers = a.defers
  size : b.tmps.size = a.tmps.size
  tmps : ∀ t, t ∉ L → b.tmps[t]? = a.tmps[t]?
theorem AgreeR.refl (L : List Tmp) (r : Bool) (a : Act) : AgreeR L r a a := ⟨fun _ => rfl, rfl, fun _ _ => rfl⟩
theorem AgreeR.trans {L M N : List Tmp} {r s q : Bool} {a b c : Act} (h : AgreeR L r a b) (k : AgreeR M s b c) (hL : ∀ t ∈ L, t ∈ N) (hM : ∀ t ∈ M, t ∈ N) (hr : q = false → r = false) (hs : q = false → s = false) : AgreeR N q a c :=
  ⟨fun e => (k.defers (hs e)).trans (h.defers (hr e)), k.size.trans h.size, fun t ht => (k.tmps t fun x => ht (hM t x)).trans (h.tmps t fun x => ht (hL t x))⟩
theorem AgreeR.wider {L N : List Tmp} {r q : Bool} {a b : Act} (h : AgreeR L r a b) (hL : ∀ t ∈ L, t ∈ N) (hr : q = false → r = false) : AgreeR N q a b :=
  ⟨fun e => h.defers (hr e), h.size, fun t ht => h.tmps t fun x => ht (hL t x)⟩
theorem AgreeR.agree {L : List Tmp} {a b : Act} (h : AgreeR L false a b) : Agree L a b := ⟨h.defers rfl, h.size, h.tmps⟩
theorem Agree.agreeR {L : List Tmp} {r : Bool} {a b : Act} (h : Agree L a b) : AgreeR L r a b := ⟨fun _ => h.defers, h.size, h.tmps⟩
def Kont.out (κ : Kont) (c : Code) (a : Act) : Exit → Act → World → Prop := fun e a' w' => AgreeR (mods c) (hasR c) a a' ∧ κ.post e a' w'

theorem seq_sound {P : Program} {r : Option Nat} {n : Nat} {x y : Code} {κ : Kont} {N : Act → World → Prop} {a : Act} {w : World}
    (hx : x.wpIn (FW r) n P ({ κ with norm := N }.out x a) a w) (hy : ∀ a' w', AgreeR (mods x) (hasR x) a a' → N a' w' → y.wpIn (FW r) n P (κ.out y a') a' w') : (Code.seq x y).wpIn (FW r) n P (κ.out (.seq x y) a) a w := by
  have e1 : hasR (Code.seq x y) = false → hasR x = false := fun h => by simp only [hasR, Bool.or_eq_false_iff] at h; exact h.1
  have e2 : hasR (Code.seq x y) = false → hasR y = false := fun h => by simp only [hasR, Bool.or_eq_false_iff] at h; exact h.2
  have m1 : ∀ t ∈ mods x, t ∈ mods (Code.seq x y) := fun t ht => List.mem_append.2 (.inl ht)
  refine wpIn_seq (wpIn_mono hx ?_)
  rintro e a' w' ⟨hA, hk⟩
  cases e with
  | normal =>
    refine wpIn_mono (hy a' w' hA hk) ?_
    rintro e2' a2 w2 ⟨hA2, hk2⟩
    exact ⟨hA.trans hA2 m1 (fun t ht => List.mem_append.2 (.inr ht)) e1 e2, hk2⟩
  | exit id => exact ⟨hA.wider m1 e1, hk⟩
  | ret => exact ⟨hA.wider m1 e1, hk⟩
  | goto l => exact hk.elim
  | panic c => exact hk.elim
  | outgrown => exact hk.elim

theorem exitsOf_map {es : List (Nat × (Act → World → Prop))} {J : Code → World → Prop} {id : Nat} {a : Act} {w : World} (h : exitsOf (es.map fun (i, _) => (i, fun _ w => J (.exit i) w)) id a w) : J (.exit id) w := by
  induction es with
  | nil => exact h.elim
  | cons e es ih =>
    simp only [List.map_cons, exitsOf] at h
    split at h
    · rename_i e'; rw [e']; exact h
    · exact ih h
theorem jmp_go {es : List (Nat × (Act → World → Prop))} {ids : List Nat} {id : Nat} {a : Act} {w : World} (h : jmp.go ((keepExits ids es).map fun (i, q) => (i, q a w)) id) : exitsOf es id a w := by
  induction es with
  | nil => exact h.elim
  | cons e es ih =>
    obtain ⟨i, q⟩ := e
    simp only [keepExits] at h
    simp only [exitsOf]
    split at h
    · simp only [List.map_cons, jmp.go] at h
      split at h
      · rename_i e'; rw [if_pos e']; exact h
      · rename_i hc e'; rw [if_neg e']; exact ih h
    · rename_i hc
      split
      · exfalso
        rename_i e'
        subst e'
        have : ∀ (l : List (Nat × (Act → World → Prop))), jmp.go ((keepExits ids l).map fun (i, q) => (i, q a w)) id → ids.contains id = true := by
          intro l
          induction l with
          | nil => exact fun h => h.elim
          | cons x l ih2 =>
            obtain ⟨j, qj⟩ := x
            intro hh
            simp only [keepExits] at hh
            split at hh
            · rename_i hcj
              simp only [List.map_cons, jmp.go] at hh
              split at hh
              · rename_i e2; rw [e2]; exact hcj
              · exact ih2 hh
            · exact ih2 hh
        rw [this _ h] at hc
        cases hc
      · exact ih h

theorem range_sound {P : Program} {n : Nat} (hp : Plain P) {g : Operand} {ps : Array Tmp} {assign body : Code} {shs : List Shape} {a : Act} {w : World} {Q : Exit → Act → World → Prop}
    {Bd : Act → (World → Prop) → (Code → World → Prop) → (World → (World → Prop) → Prop) → World → Prop}
    (hbody : ∀ (l : Nat) (a : Act) (N : World → Prop) (J : Code → World → Prop) (T : World → (World → Prop) → Prop) (w : World), (∀ w K K', T w K → (∀ w', K w' → K' w') → T w K') → Bd a N J T w →
      assign.wpIn (FW (some l)) 0 P (fun e a' w' => match e with
        | .normal => T w' fun w2 => body.wpIn (FW (some l)) 0 P (fun e _ w' => match e with | .normal => N w' | .ret => J .ret w' | .exit id => J (.exit id) w' | _ => False) a' w2
        | _ => False) a w)
    {N : Nat → World → Prop} {J : Nat → Code → World → Prop}
    (h : rangeW P (a.eval g) ps.size (fun xs N J T w => exC shs fun vs => xs = vs.toArray ∧
        Bd { tmps := (ps.zip vs.toArray).foldl (fun t (p, v) => t.setIfInBounds p v) a.tmps, defers := [] } N J T w) N J w)
    (hN : ∀ D w', N D w' → Q .normal { a with defers := { target := .collected D, args := #[] } :: a.defers } w')
    (hJ : ∀ D c w', J D c w' → c.wpIn (FW none) n P Q { a with defers := { target := .collected D, args := #[] } :: a.defers } w') :
    (Code.rangeFunc g ps assign body).wpIn (FW none) n P Q a w := by
  obtain ⟨w₀, gf, lb, m, Y, A, Ax, hv, ⟨fn0, c0, hf0, hb0⟩, hS, hxs, hI, hB, hKn, hKj⟩ := h
  have hnm : ¬ fn0.name = "runtime.NumGoroutine" := by simpa using hp gf fn0 hf0
  refine wpIn_rangeFunc ?_
  intro fn _
  obtain ⟨rec, hrec⟩ : ∃ rec : LoopState → Option Code → Loop, rec = fun st pe => { state := st, pending := pe, fn, tmps := a.tmps, params := ps, assign, body, defers := w.heap.size } := ⟨_, rfl⟩
  have hS1 : Sat w₀ (markH w.heap.size * A 0) (w.alloc (.deferred (some []))) := hS.alloc _
  have hS2 : Sat w₀ (ob (w.heap.size + 1) (.loop (rec .ready none)) * (markH w.heap.size * A 0)) ((w.alloc (.deferred (some []))).alloc (.loop (rec .ready none))) := by
    have := hS1.alloc (.loop (rec .ready none))
    rwa [World.size_alloc] at this
  refine ⟨w.heap.size + 1, [{ target := .collected w.heap.size, args := #[] }], (w.alloc (.deferred (some []))).alloc (.loop (rec .ready none)), { target := .fn (.func gf) lb, args := #[.func (.yield (w.heap.size + 1)) #[] #[]] }, (w.alloc (.deferred (some []))).alloc (.loop (rec .ready none)), gf,
    #[.func (.yield (w.heap.size + 1)) #[] #[]] ++ lb, (w.alloc (.deferred (some []))).alloc (.loop (rec .ready none)), ?_, ?_, fun _ _ => trivial, ?_, fun hd => by simp [FW] at hd, callsIn_FW.2 ?_⟩
  · rw [hrec]; exact run_enterLoop_outer _ _ _ _ _
  · simp only [resolve, hv]
    simp [go_sem]
  · simp only [invoke, callFunc, Sem.run_bind]
    simp only [program, Sem.run, Result.andThen_ok]
    simp [hf0, hb0, hnm]
  have hok : ∀ X, okFn (.yield (w.heap.size + 1)) X ↔ X := fun X => Iff.rfl
  refine Calls.mono (hI (.yield (w.heap.size + 1)) #[] #[] (fun k => ob (w.heap.size + 1) (.loop (rec .ready none)) * A k) (ex fun c => ob (w.heap.size + 1) (.loop (rec .done (some c))) * Ax c) hok
    (fun _ _ w' h => h.right) ?_ (markH w.heap.size) _ (hS2.perm (by ac_rfl))) ?_
  · -- a round
    intro k x H hkm hx G w1 h1
    have h1' : Sat w₀ (ob (w.heap.size + 1) (.loop (rec .ready none)) * (A k * (H * G))) w1 := h1.perm (by ac_rfl)
    have hl := h1'.ob
    have hy := run_yield (P := P) (args := x) hl (by rw [hrec]; exact hxs k x H hkm hx)
    rw [hrec] at hy
    refine ⟨fn, _, assign, body, (congrArg (fun z => (Instr.yield (w.heap.size + 1) z).run P w1) (Array.empty_append : #[] ++ x = x)).trans hy, ?_⟩
    have hb := hB k x H hkm hx (ob (w.heap.size + 1) (.loop (rec .ready none)) * G) (ob (w.heap.size + 1) (.loop { rec .ready none with state := .busy }) * G)
      (fun w1 K => w1.heap[w.heap.size + 1]? = some (.loop (rec .ready none)) ∧ K (w1.putObj (w.heap.size + 1) (.loop { rec .ready none with state := .busy }))) w1
      (fun H w2 K h2 hk => by
        have h3 := h2.perm (sep_left_comm _ _ _)
        exact ⟨h3.ob, hk _ ((h3.putObj _).perm (sep_left_comm _ _ _))⟩) (h1'.perm (by ac_rfl))
    obtain ⟨vs, rfl, hb2⟩ := exC_some hb
    refine roundIn_of_wpIn (F := FW none) trivial ?_
    refine wpIn_mono (hbody (w.heap.size + 1) _ _ _ _ _ (fun w K K' hT hk => ⟨hT.1, hk _ hT.2⟩) hb2) ?_
    rintro e a' w2 hp2
    cases e with
    | normal => ?_
    | _ => exact hp2.elim
    obtain ⟨hl2, hp2⟩ := hp2
    refine ⟨_, run_beginRound hl2 (by rw [hrec]), ?_⟩
    refine wpIn_mono hp2 ?_
    have fin : ∀ (jump : Option Code) (H : HP) (W3 : World), Sat w₀ (H * (ob (w.heap.size + 1) (.loop { rec .ready none with state := .busy }) * G)) W3 →
        (Instr.endRound (w.heap.size + 1) jump).run P W3 = .ok (.bool jump.isNone) (W3.putObj (w.heap.size + 1) (.loop (rec (if jump.isNone then .ready else .done) jump))) ∧
        Sat w₀ (ob (w.heap.size + 1) (.loop (rec (if jump.isNone then .ready else .done) jump)) * (H * G)) (W3.putObj (w.heap.size + 1) (.loop (rec (if jump.isNone then .ready else .done) jump))) := by
      intro jump H W3 h3
      have h3' := h3.perm (sep_left_comm _ _ _)
      have := run_endRound (P := P) jump h3'.ob
      rw [hrec] at this h3' ⊢
      exact ⟨this, h3'.putObj _⟩
    rintro e a3 W3 hp
    cases e with
    | normal =>
      obtain ⟨hr, hs⟩ := fin none _ W3 hp
      exact ⟨_, _, hr, _, rfl, .inl ⟨rfl, hs.perm (by simp only [Option.isNone_none, if_true]; ac_rfl)⟩⟩
    | ret =>
      obtain ⟨hr, hs⟩ := fin (some .ret) _ W3 hp
      exact ⟨_, _, hr, _, rfl, .inr ⟨rfl, Sat.to_ex .ret (hs.perm (by simp only [Option.isNone_some, Bool.false_eq_true, if_false]; ac_rfl))⟩⟩
    | exit id =>
      obtain ⟨hr, hs⟩ := fin (some (.exit id)) _ W3 hp
      exact ⟨_, _, hr, _, rfl, .inr ⟨rfl, Sat.to_ex (.exit id) (hs.perm (by simp only [Option.isNone_some, Bool.false_eq_true, if_false]; ac_rfl))⟩⟩
    | goto l => exact hp.elim
    | panic c => exact hp.elim
    | outgrown => exact hp.elim
  · rintro e w3 ⟨v, rfl, h3⟩
    rcases h3 with h3 | h3
    · have h3' : Sat w₀ (ob (w.heap.size + 1) (.loop (rec .ready none)) * (markH w.heap.size * A m)) w3 := h3.perm (by ac_rfl)
      have hend := run_endLoop (P := P) h3'.ob (by rw [hrec]; simp)
      have hs := h3'.putObj (.loop { rec .ready none with state := .exhausted })
      refine ⟨none, w3.putObj (w.heap.size + 1) (.loop { rec .ready none with state := .exhausted }), ?_, hN _ _ (hKn _ _ hs.right)⟩
      rw [hrec] at hend ⊢
      exact hend
    · obtain ⟨c, h3⟩ := h3.ex
      have h3' : Sat w₀ (ob (w.heap.size + 1) (.loop (rec .done (some c))) * (markH w.heap.size * Ax c)) w3 := h3.perm (by ac_rfl)
      have hend := run_endLoop (P := P) h3'.ob (by rw [hrec]; simp)
      have hs := h3'.putObj (.loop { rec .done (some c) with state := .exhausted })
      refine ⟨some c, w3.putObj (w.heap.size + 1) (.loop { rec .done (some c) with state := .exhausted }), ?_, hJ _ _ _ (hKj _ _ _ hs.right)⟩
      rw [hrec] at hend ⊢
      exact hend

theorem cmp_sound {P : Program} (hp : Plain P) (hm : P.follows .mixedOrders = true) (c : Code) : ∀ (r : Option Nat) (m : Nat) (n : Ann) (κ : Kont) (a : Act) (w : World), cmp P r.isNone n c κ a w → c.wpIn (FW r) m P (κ.out c a) a w := by
  induction c with
  | skip => exact fun r m n κ a w h => wpIn_skip ⟨AgreeR.refl _ _ _, by cases n <;> exact h⟩
  | region id ops draw =>
    intro r m n κ a w h
    have hr : ∃ anc l, regW P ops draw anc l κ.norm a w := by
      cases n <;> exact ⟨_, _, h⟩
    obtain ⟨anc, l, hr⟩ := hr
    refine wpIn_mono (regW_sound hp hm hr) ?_
    rintro e a' w' ⟨rfl, hA, hk⟩
    exact ⟨hA.agreeR, hk⟩
  | seq x y ihx ihy =>
    intro r m n κ a w h
    have plain : ∀ n₁ n₂, cmp P r.isNone n₁ x { κ with norm := fun a w => cmp P r.isNone n₂ y κ a w } a w → (Code.seq x y).wpIn (FW r) m P (κ.out (.seq x y) a) a w :=
      fun n₁ n₂ h => seq_sound (ihx _ _ _ _ _ _ h) fun a' w' _ hk => ihy _ _ _ _ _ _ hk
    cases n with
    | seq n₁ n₂ => exact plain n₁ n₂ h
    | meet s n₁ n₂ =>
      simp only [cmp] at h
      split at h
      · exact h.elim
      rename_i hR
      obtain ⟨J, h1, h2⟩ := h
      refine seq_sound (ihx _ _ _ _ _ _ h1) fun a' w' hA hk => ?_
      have h3 := h2 (fun t => a'.tmps.getD t undef)
      rw [hR] at hA
      rw [smear_eq hA.agree] at h3
      obtain ⟨j, hj, hK⟩ := allC_appC s h3 hk
      exact ihy _ _ _ _ _ _ (hK w' hj)
    | none => exact plain .none .none h
    | one _ => exact plain .none .none h
    | draw _ _ => exact plain .none .none h
    | loop _ _ => exact plain .none .none h
    | range _ _ _ => exact plain .none .none h
  | cond c x y ihx ihy =>
    intro r m n κ a w h
    cases hc : a.eval c with
    | bool b =>
      have hb : ∃ n₁ n₂, br b (cmp P r.isNone n₁ x κ a w) (cmp P r.isNone n₂ y κ a w) := by
        cases n <;> (simp only [cmp, hc] at h; exact ⟨_, _, h⟩)
      obtain ⟨n₁, n₂, hb⟩ := hb
      rcases br_sound hb with ⟨rfl, hb⟩ | ⟨rfl, hb⟩
      · refine wpIn_cond_true hc (wpIn_mono (ihx _ _ _ _ _ _ hb) ?_)
        rintro e a' w' ⟨hA, hk⟩
        exact ⟨hA.wider (fun t ht => List.mem_append.2 (.inl ht)) (fun h => by simp only [hasR, Bool.or_eq_false_iff] at h; exact h.1), hk⟩
      · refine wpIn_cond_false hc (wpIn_mono (ihy _ _ _ _ _ _ hb) ?_)
        rintro e a' w' ⟨hA, hk⟩
        exact ⟨hA.wider (fun t ht => List.mem_append.2 (.inr ht)) (fun h => by simp only [hasR, Bool.or_eq_false_iff] at h; exact h.2), hk⟩
    | _ => cases n <;> (simp only [cmp, hc] at h)
  | block id c ih =>
    intro r m n κ a w h
    have hb : ∃ n, cmp P r.isNone n c { κ with exits := (id, κ.norm) :: κ.exits } a w := by
      cases n <;> exact ⟨_, h⟩
    obtain ⟨n, hb⟩ := hb
    refine wpIn_block (wpIn_mono (ih _ _ _ _ _ _ hb) ?_)
    rintro e a' w' ⟨hA, hk⟩
    cases e with
    | normal => exact ⟨hA, hk⟩
    | exit id' =>
      simp only [Kont.post, exitsOf] at hk
      simp only [Exit.inBlock]
      split at hk
      · rename_i e; rw [if_pos e]; exact ⟨hA, hk⟩
      · rename_i e; rw [if_neg e]; exact ⟨hA, hk⟩
    | ret => exact ⟨hA, hk⟩
    | goto l => exact hk.elim
    | panic c => exact hk.elim
    | outgrown => exact hk.elim
  | exit id => exact fun r m n κ a w h => wpIn_exit ⟨AgreeR.refl _ _ _, by cases n <;> exact h⟩
  | ret => exact fun r m n κ a w h => wpIn_ret ⟨AgreeR.refl _ _ _, by cases n <;> exact h⟩
  | loop c ih =>
    intro r mm n κ a w h
    cases n with
    | loop s n =>
      simp only [cmp] at h
      split at h
      · rename_i hR
        obtain ⟨I, ⟨m₀, h0⟩, hround⟩ := h
        let G : Act → World → Nat → Prop := fun a' w' m => AgreeR (mods c) true a a' ∧ appC s I a' fun i => i a'.defers w' m
        let μ : Act → World → Nat := fun a' w' => @dite _ (∃ m, G a' w' m) (Classical.propDecidable _) (fun h => Classical.choose (least h)) (fun _ => 0)
        have hμ : ∀ {a' w'} (h : ∃ m, G a' w' m), G a' w' (μ a' w') := by
          intro a' w' h
          have : μ a' w' = Classical.choose (least h) := dif_pos h
          rw [this]
          exact (Classical.choose_spec (least h)).1
        have hle : ∀ {a' w' m}, G a' w' m → μ a' w' ≤ m := by
          intro a' w' m h
          have : μ a' w' = Classical.choose (least ⟨m, h⟩) := dif_pos ⟨m, h⟩
          rw [this]
          exact (Classical.choose_spec (least ⟨m, h⟩)).2 _ h
        refine wpIn_loop (fun a' w' => ∃ m, G a' w' m) μ ⟨m₀, AgreeR.refl _ _ _, h0⟩ ?_
        intro a' w' hI
        obtain ⟨hA, hi⟩ := hμ hI
        have h3 := hround (fun t => a'.tmps.getD t undef) a'.defers
        have hag : Agree (mods c) { a with defers := a'.defers } a' := ⟨rfl, hA.size, hA.tmps⟩
        rw [smear_eq hag] at h3
        obtain ⟨i, hiw, hK⟩ := allC_appC s h3 hi
        refine wpIn_mono (ih _ _ _ _ _ _ (hK w' _ hiw)) ?_
        rintro e a2 w2 ⟨hA2, hk⟩
        have hA3 : AgreeR (mods c) true a a2 := hA.trans hA2 (fun _ h => h) (fun _ h => h) (fun h => by cases h) (fun h => by cases h)
        have hA4 : AgreeR (mods (.loop c)) (hasR (.loop c)) a a2 := hA3.wider (fun _ h => h) (fun h => by rw [show hasR (.loop c) = hasR c from rfl, hR] at h; cases h)
        cases e with
        | normal =>
          obtain ⟨m', hlt, hk⟩ := hk
          exact ⟨⟨m', hA3, hk⟩, Nat.lt_of_le_of_lt (hle ⟨hA3, hk⟩) hlt⟩
        | exit id => exact ⟨hA4, hk⟩
        | ret => exact ⟨hA4, hk⟩
        | goto l => exact hk.elim
        | panic c => exact hk.elim
        | outgrown => exact hk.elim
      rename_i hR
      obtain ⟨I, ⟨m₀, h0⟩, hround⟩ := h
      let G : Act → World → Nat → Prop := fun a' w' m => AgreeR (mods c) false a a' ∧ appC s I a' fun i => i w' m
      let μ : Act → World → Nat := fun a' w' => @dite _ (∃ m, G a' w' m) (Classical.propDecidable _) (fun h => Classical.choose (least h)) (fun _ => 0)
      have hμ : ∀ {a' w'} (h : ∃ m, G a' w' m), G a' w' (μ a' w') := by
        intro a' w' h
        have : μ a' w' = Classical.choose (least h) := dif_pos h
        rw [this]
        exact (Classical.choose_spec (least h)).1
      have hle : ∀ {a' w' m}, G a' w' m → μ a' w' ≤ m := by
        intro a' w' m h
        have : μ a' w' = Classical.choose (least ⟨m, h⟩) := dif_pos ⟨m, h⟩
        rw [this]
        exact (Classical.choose_spec (least ⟨m, h⟩)).2 _ h
      refine wpIn_loop (fun a' w' => ∃ m, G a' w' m) μ ⟨m₀, AgreeR.refl _ _ _, h0⟩ ?_
      intro a' w' hI
      obtain ⟨hA, hi⟩ := hμ hI
      have h3 := hround (fun t => a'.tmps.getD t undef)
      rw [smear_eq hA.agree] at h3
      obtain ⟨i, hiw, hK⟩ := allC_appC s h3 hi
      refine wpIn_mono (ih _ _ _ _ _ _ (hK w' _ hiw)) ?_
      rintro e a2 w2 ⟨hA2, hk⟩
      have hA3 : AgreeR (mods c) false a a2 := hA.trans hA2 (fun _ h => h) (fun _ h => h) (fun _ => rfl) (fun _ => hR)
      have hA4 : AgreeR (mods (.loop c)) (hasR (.loop c)) a a2 := hA3.wider (fun _ h => h) (fun _ => rfl)
      cases e with
      | normal =>
        obtain ⟨m', hlt, hk⟩ := hk
        exact ⟨⟨m', hA3, hk⟩, Nat.lt_of_le_of_lt (hle ⟨hA3, hk⟩) hlt⟩
      | exit id => exact ⟨hA4, hk⟩
      | ret => exact ⟨hA4, hk⟩
      | goto l => exact hk.elim
      | panic c => exact hk.elim
      | outgrown => exact hk.elim
    | _ => exact h.elim
  | rangeFunc g ps assign body iha ihb =>
    intro r mm n κ a w h
    cases n with
    | range shs n0 n =>
      cases r with
      | some l => exact h.elim
      | none =>
        have hag : ∀ D, AgreeR (mods (.rangeFunc g ps assign body)) (hasR (.rangeFunc g ps assign body)) a { a with defers := { target := .collected D, args := #[] } :: a.defers } :=
          fun D => ⟨fun h => (by simp [hasR] at h), rfl, fun _ _ => rfl⟩
        refine range_sound (shs := shs) (Bd := fun a' N J T w => cmp P false n0 assign { norm := fun a' w => T w fun w => cmp P false n body { norm := fun _ w => N w, exits := (keepExits (exitIds body) κ.exits).map fun (i, _) => (i, fun _ w => J (.exit i) w), ret := fun _ w => J .ret w } a' w, exits := [], ret := fun _ _ => False } a' w) (hp := hp) ?_ h ?_ ?_
        · intro l a' N J T w' hT hb
          refine wpIn_mono (iha (some l) _ _ _ _ _ hb) ?_
          rintro e a2 w2 ⟨_, hk⟩
          cases e with
          | normal =>
            refine hT _ _ _ hk fun w3 hk => ?_
            refine wpIn_mono (ihb (some l) _ _ _ _ _ hk) ?_
            rintro e a2 w2 ⟨_, hk⟩
            cases e with
            | normal => exact hk
            | ret => exact hk
            | exit id => exact exitsOf_map hk
            | goto l => exact hk.elim
            | panic c => exact hk.elim
            | outgrown => exact hk.elim
          | ret => exact hk.elim
          | exit id => exact hk.elim
          | goto l => exact hk.elim
          | panic c => exact hk.elim
          | outgrown => exact hk.elim
        · exact fun D w' hk => ⟨hag D, hk⟩
        · intro D c w' hj
          unfold jmp at hj
          split at hj
          · refine wpIn_ret ⟨hag D, ?_⟩
            split at hj
            · exact hj
            · exact hj.elim
          · rename_i id
            exact wpIn_exit ⟨hag D, jmp_go hj⟩
          · exact hj.elim
    | _ => exact h.elim
  | label l => exact fun r m n κ a w h => wpIn_label ⟨AgreeR.refl _ _ _, by cases n <;> exact h⟩
  | scope c ih =>
    intro r m n κ a w h
    cases r with
    | some l => exact h.elim
    | none =>
      have hb : ∃ n, cmp P true n c κ a w := by
        cases n <;> exact ⟨_, h⟩
      obtain ⟨n, hb⟩ := hb
      refine wpIn_FW.2 (wp_scope_straight (wpIn_FW.1 (wpIn_mono (ih none m n κ a w hb) ?_)))
      rintro e a' w' ⟨hA, hk⟩
      cases e with
      | goto l => exact hk.elim
      | _ => exact ⟨hA, hk⟩
  | _ => intro r m n κ a w h; cases n <;> exact h.elim

/-! ### A function -/
/-- The results, in their order: out of a slot, or out of memory. -/
def resL (P : Program) (tmps : Array Value) : List ResultVar → World → (List Value → Prop) → Prop
  | [], w, K => K []
  | .tmp t :: rs, w, K => resL P tmps rs w fun vs => K (tmps.getD t undef :: vs)
  | .cell a t :: rs, w, K => opLoad P t (tmps.getD a undef) w fun v _ => resL P tmps rs w fun vs => K (v :: vs)
def resV (R : Value → World → Prop) (w : World) (vs : List Value) : Prop :=
  match vs with
  | [v] => R v w
  | vs => R (.tuple vs.toArray) w
/-- The function comes to the block of a loop's deferred calls: it is shut. -/
def shutD (D : Nat) (w : World) (K : World → Prop) : Prop := w.heap[D]? = some (.deferred (some [])) ∧ K (w.putObj D (.deferred none))
def marksW : List Deferred → World → (World → Prop) → Prop
  | [], w, K => K w
  | d :: ds, w, K => match d.target with
    | .collected D => shutD D w fun w => marksW ds w K
    | _ => False
/-- What is owed where the function returns. -/
def resW (P : Program) (fn : Func) (R : Value → World → Prop) (a : Act) (w : World) : Prop :=
  marksW a.defers w fun w => resL P a.tmps fn.results.toList w (resV R w)
theorem resL_sound {P : Program} {tmps : Array Value} {w : World} : ∀ {rs : List ResultVar} {K : List Value → Prop}, resL P tmps rs w K →
    ∃ vs, K vs ∧ (rs.mapM (m := Sem) fun | .tmp t => pure (tmps.getD t undef) | .cell a t => do loadVar t (← asAddr (tmps.getD a undef))).run P w = .ok vs w
  | [], K, h => ⟨[], h, by simp⟩
  | .tmp t :: rs, K, h => by
    obtain ⟨vs, hk, hr⟩ := resL_sound (rs := rs) h
    refine ⟨_, hk, ?_⟩
    rw [List.mapM_cons]
    simp [-Array.getD_eq_getD_getElem?, hr]
  | .cell a t :: rs, K, h => by
    obtain ⟨v, S, hk, hS, hl⟩ := opLoad_sound h
    obtain ⟨vs, hk, hr⟩ := resL_sound (rs := rs) hk
    refine ⟨_, hk, ?_⟩
    have hl := hl w hS
    rw [List.mapM_cons]
    cases hx : tmps.getD a undef with
    | pointer p =>
      rw [hx] at hl
      cases p with
      | none => simp [Instr.loadAt, Instr.sureAddr, stuck] at hl
      | some a' =>
        simp [Instr.loadAt, Instr.sureAddr] at hl
        have ha : (asAddr (tmps.getD a undef)).run P w = .ok a' w := by rw [hx]; rfl
        simp [-Array.getD_eq_getD_getElem?, ha, hl, hr]
    | _ => rw [hx] at hl; simp [Instr.loadAt, Instr.sureAddr, stuck] at hl
theorem resL_results {P : Program} {fn : Func} {R : Value → World → Prop} {a : Act} {w : World} (h : resL P a.tmps fn.results.toList w (resV R w)) :
    ∃ v, (results fn a.tmps).run P w = .ok v w ∧ R v w := by
  obtain ⟨vs, hk, hr⟩ := resL_sound h
  have e : (results fn a.tmps).run P w = .ok (if h : vs.toArray.size = 1 then vs.toArray[0] else .tuple vs.toArray) w := by
    unfold results
    rw [Array.mapM_eq_mapM_toList]
    simp only [Sem.run_bind, Sem.run_map, Sem.run_pure]
    have h2 := congrArg (fun r => (Result.andThen r fun (vs : List Value) w' => Result.ok vs.toArray w').andThen fun (vs : Array Value) w' => Result.ok (if h : vs.size = 1 then vs[0] else Value.tuple vs) w') hr
    exact h2
  refine ⟨_, e, ?_⟩
  unfold resV at hk
  split at hk
  · simpa using hk
  · rename_i hne
    rw [dif_neg]
    · exact hk
    · intro h1
      obtain ⟨v, rfl⟩ := List.length_eq_one_iff.1 (by simpa using h1)
      exact hne v rfl

theorem resW_sound {P : Program} {n : Nat} {fn : Func} {R : Value → World → Prop} {a : Act} {w : World} (h : resW P fn R a w) :
    LeavesInM (FW none) n P fn a.tmps (fun e w' => ∃ v, e = .returned v ∧ R v w') a.defers .returning w := by
  unfold resW at h
  generalize a.defers = ds at h
  induction ds generalizing w with
  | nil =>
    obtain ⟨v, hr, hR⟩ := resL_results h
    exact ⟨v, hr, v, rfl, hR⟩
  | cons d ds ih =>
    simp only [marksW] at h
    split at h <;> try exact h.elim
    rename_i D hD
    obtain ⟨hb, h⟩ := h
    exact ⟨by simp, .inl ⟨D, _, hD, run_takeDeferred hb, ih h⟩⟩

def fnW (P : Program) (fn : Func) (n : Ann) (args : Array Value) (R : Value → World → Prop) (w : World) : Prop :=
  match fn.body with
  | some c => cmp P true n c { norm := resW P fn R, exits := [], ret := resW P fn R } { tmps := args ++ Array.replicate (fn.ntmps - args.size) undef, defers := [] } w
  | none => False

theorem call_of_fnW {P : Program} (hp : Plain P) (hm : P.follows .mixedOrders = true) {f : FuncId} {fn : Func} (hf : P.funcs[f]? = some fn) (n : Ann) {args : Array Value} {R : Value → World → Prop} {w : World}
    (h : fnW P fn n args R w) : call P f args w R := by
  unfold fnW at h
  split at h <;> try exact h.elim
  rename_i c hb
  refine (callsIn_FW (r := none) (n := 0)).1 (callsIn_of_wp_marks hf hb trivial (wpIn_mono (cmp_sound hp hm c none 0 n _ _ _ h) ?_) rfl)
  rintro e a w' ⟨_, hk⟩
  cases e with
  | normal => exact resW_sound hk
  | ret => exact resW_sound hk
  | exit id => exact hk.elim
  | goto l => exact hk.elim
  | panic c => exact hk.elim
  | outgrown => exact hk.elim

end Go.Sp
