/- A verified symbolic compile of the translated Go code: part 5: statements, loops, functions. No conditions. -/
import Derived.Test.YtgkdlglpkfoeeaaSp4
set_option linter.unusedVariables false
set_option linter.unusedSimpArgs false
namespace Go.Sp
open Go.RowKit

/-- What is said beside the code: the order of a region that draws it, a loop's own slots, a place where ways meet. -/
inductive Ann where
  | none
  | seq (a b : Ann)
  | one (a : Ann)
  | draw (anc : List (List Nat)) (order : Ord)
  | loop (slots : List (Tmp × Shape)) (a : Ann)
  | meet (slots : List (Tmp × Shape)) (a b : Ann)

/-- Where a piece of code may lead. -/
structure Kont where
  norm : Act → World → Prop
  exits : List (Nat × (Act → World → Prop))
  ret : Act → World → Prop

def exitsOf : List (Nat × (Act → World → Prop)) → Nat → Act → World → Prop
  | [], _, _, _ => False
  | (i, q) :: l, id, a, w => if id = i then q a w else exitsOf l id a w
def Kont.post (κ : Kont) : Exit → Act → World → Prop
  | .normal, a, w => κ.norm a w
  | .exit id, a, w => exitsOf κ.exits id a w
  | .ret, a, w => κ.ret a w
  | _, _, _ => False

def CurT (β : Type) : List (Tmp × Shape) → Type
  | [] => β
  | (_, .int _) :: s => Int → CurT β s
  | (_, .bool) :: s => Bool → CurT β s
  | (_, .ptr) :: s => Option Addr → CurT β s
  | (_, .slice) :: s => Option Addr → Nat → Nat → CurT β s
  | (_, .str) :: s => ByteArray → CurT β s
  | (_, .map) :: s => Option Nat → CurT β s
  | (_, .agg) :: s => Array Value → CurT β s
  | (_, .any) :: s => Value → CurT β s
  | (_, .adr) :: s => Addr → CurT β s

/-- A relation applied to what the slots hold. -/
def appC {β : Type} : (s : List (Tmp × Shape)) → CurT β s → Act → (β → Prop) → Prop
  | [], f, _, K => K f
  | (t, .int k) :: s, f, a, K => match a.tmps.getD t undef with | .int j n => if j = k then appC s (f n) a K else False | _ => False
  | (t, .bool) :: s, f, a, K => match a.tmps.getD t undef with | .bool n => appC s (f n) a K | _ => False
  | (t, .ptr) :: s, f, a, K => match a.tmps.getD t undef with | .pointer n => appC s (f n) a K | _ => False
  | (t, .slice) :: s, f, a, K => match a.tmps.getD t undef with | .slice p l c => appC s (f p l c) a K | _ => False
  | (t, .str) :: s, f, a, K => match a.tmps.getD t undef with | .string n => appC s (f n) a K | _ => False
  | (t, .map) :: s, f, a, K => match a.tmps.getD t undef with | .map n => appC s (f n) a K | _ => False
  | (t, .agg) :: s, f, a, K => match a.tmps.getD t undef with | .agg n => appC s (f n) a K | _ => False
  | (t, .any) :: s, f, a, K => appC s (f (a.tmps.getD t undef)) a K
  | (t, .adr) :: s, f, a, K => match a.tmps.getD t undef with | .pointer (some n) => appC s (f n) a K | _ => False

/-- For all that the slots may hold. -/
def allC {β : Type} : (s : List (Tmp × Shape)) → CurT β s → Act → (β → Act → Prop) → Prop
  | [], f, a, K => K f a
  | (t, .int k) :: s, f, a, K => ∀ n : Int, allC s (f n) (a.put (some t) (.int k n)) K
  | (t, .bool) :: s, f, a, K => ∀ n : Bool, allC s (f n) (a.put (some t) (.bool n)) K
  | (t, .ptr) :: s, f, a, K => ∀ n : Option Addr, allC s (f n) (a.put (some t) (.pointer n)) K
  | (t, .slice) :: s, f, a, K => ∀ (p : Option Addr) (l c : Nat), allC s (f p l c) (a.put (some t) (.slice p l c)) K
  | (t, .str) :: s, f, a, K => ∀ n : ByteArray, allC s (f n) (a.put (some t) (.string n)) K
  | (t, .map) :: s, f, a, K => ∀ n : Option Nat, allC s (f n) (a.put (some t) (.map n)) K
  | (t, .agg) :: s, f, a, K => ∀ n : Array Value, allC s (f n) (a.put (some t) (.agg n)) K
  | (t, .any) :: s, f, a, K => ∀ n : Value, allC s (f n) (a.put (some t) n) K
  | (t, .adr) :: s, f, a, K => ∀ n : Addr, allC s (f n) (a.put (some t) (.pointer (some n))) K

/-- The slots that a piece of code turns. -/
def mods : Code → List Tmp
  | .region _ ops _ => modsOps ops
  | .seq a b => mods a ++ mods b
  | .cond _ a b => mods a ++ mods b
  | .block _ c => mods c
  | .loop c => mods c
  | _ => []

/-- A state in which some slots hold whatever. -/
def smear (u : Nat → Value) : List Tmp → Act → Act
  | [], a => a
  | t :: l, a => smear u l (a.put (some t) (u t))

def cmp (P : Program) : Ann → Code → Kont → Act → World → Prop
  | _, .skip, κ, a, w => κ.norm a w
  | n, .region _ ops draw, κ, a, w => match n with
    | .draw anc l => regW P ops draw anc l κ.norm a w
    | _ => regW P ops draw [] .nil κ.norm a w
  | n, .seq x y, κ, a, w => match n with
    | .seq n₁ n₂ => cmp P n₁ x { κ with norm := fun a w => cmp P n₂ y κ a w } a w
    | .meet s n₁ n₂ => ∃ J : CurT (World → Prop) s,
        cmp P n₁ x { κ with norm := fun a w => appC s J a fun j => j w } a w ∧
        ∀ u : Nat → Value, allC s J (smear u (mods x) a) fun j a => ∀ w, j w → cmp P n₂ y κ a w
    | _ => cmp P .none x { κ with norm := fun a w => cmp P .none y κ a w } a w
  | n, .cond c x y, κ, a, w => match a.eval c with
    | .bool b => match n with
      | .seq n₁ n₂ => br b (cmp P n₁ x κ a w) (cmp P n₂ y κ a w)
      | _ => br b (cmp P .none x κ a w) (cmp P .none y κ a w)
    | _ => False
  | n, .block id c, κ, a, w => match n with
    | .one n => cmp P n c { κ with exits := (id, κ.norm) :: κ.exits } a w
    | _ => cmp P .none c { κ with exits := (id, κ.norm) :: κ.exits } a w
  | _, .exit id, κ, a, w => exitsOf κ.exits id a w
  | _, .ret, κ, a, w => κ.ret a w
  | n, .loop c, κ, a, w => match n with
    | .loop s n => ∃ I : CurT (World → Nat → Prop) s,
        (∃ m, appC s I a fun i => i w m) ∧
        ∀ u : Nat → Value, allC s I (smear u (mods c) a) fun i a => ∀ w m, i w m →
          cmp P n c { κ with norm := fun a' w' => ∃ m', m' < m ∧ appC s I a' fun i => i w' m' } a w
    | _ => False
  | _, _, _, _, _ => False

/-! ### soundness -/
theorem smear_size (u : Nat → Value) : ∀ (L : List Tmp) (a : Act), (smear u L a).tmps.size = a.tmps.size
  | [], _ => rfl
  | t :: L, a => (smear_size u L _).trans (by simp [Act.put])
theorem smear_defers (u : Nat → Value) : ∀ (L : List Tmp) (a : Act), (smear u L a).defers = a.defers
  | [], _ => rfl
  | t :: L, a => (smear_defers u L _).trans rfl
theorem smear_get (u : Nat → Value) : ∀ (L : List Tmp) (a : Act) (t : Nat), (smear u L a).tmps[t]? = if t ∈ L ∧ t < a.tmps.size then some (u t) else a.tmps[t]?
  | [], _, _ => by simp [smear]
  | x :: L, a, t => by
    simp only [smear]
    rw [smear_get u L]
    simp only [Act.put, Array.size_setIfInBounds, Array.getElem?_setIfInBounds, List.mem_cons]
    by_cases h1 : t ∈ L <;> by_cases h2 : t < a.tmps.size <;> by_cases h3 : x = t
    all_goals (try subst h3)
    all_goals simp_all
    all_goals (intro h; exact absurd h.symm h3)
theorem smear_eq {L : List Tmp} {a b : Act} (h : Agree L a b) : smear (fun t => b.tmps.getD t undef) L a = b := by
  have hd := (smear_defers (fun t => b.tmps.getD t undef) L a).trans h.defers.symm
  have ht : (smear (fun t => b.tmps.getD t undef) L a).tmps = b.tmps := by
    apply Array.ext_getElem?
    intro t
    rw [smear_get]
    split
    · rename_i hh
      have : t < b.tmps.size := by rw [h.size]; exact hh.2
      simp [this]
    · rename_i hh
      by_cases hL : t ∈ L
      · have : ¬ t < a.tmps.size := fun x => hh ⟨hL, x⟩
        rw [Array.getElem?_eq_none (by omega), Array.getElem?_eq_none (by rw [h.size]; omega)]
      · exact (h.tmps t hL).symm
  cases hs : smear (fun t => b.tmps.getD t undef) L a with
  | mk x y =>
    rw [hs] at hd ht
    cases b
    simp only at hd ht
    rw [hd, ht]

theorem put_getD {a : Act} {t : Nat} {v : Value} (h : a.tmps.getD t undef = v) (hv : v ≠ undef) : a.put (some t) v = a := by
  refine put_same ?_
  rw [Array.getD_eq_getD_getElem?] at h
  cases hx : a.tmps[t]? with
  | none => rw [hx] at h; exact absurd h.symm hv
  | some x => rw [hx] at h; simp at h; rw [h]
theorem put_getD_any {a : Act} {t : Nat} : a.put (some t) (a.tmps.getD t undef) = a := by
  cases hx : a.tmps[t]? with
  | none =>
    have : a.tmps.size ≤ t := by simpa using hx
    cases a
    simp only [Act.put, Act.mk.injEq, and_true]
    exact Array.setIfInBounds_eq_of_size_le this
  | some x => exact put_same (by rw [hx, Array.getD_eq_getD_getElem?, hx]; rfl)

theorem allC_appC {β : Type} : ∀ (s : List (Tmp × Shape)) {f : CurT β s} {a : Act} {G : β → Prop} {K : β → Act → Prop}, allC s f a K → appC s f a G → ∃ b, G b ∧ K b a
  | [], f, a, G, K, h, g => ⟨f, g, h⟩
  | (t, .int k) :: s, f, a, G, K, h, g => by
    simp only [appC] at g
    split at g <;> try exact g.elim
    rename_i j n hv
    split at g <;> try exact g.elim
    rename_i hj
    subst hj
    have := h n
    rw [put_getD hv (by simp [undef])] at this
    exact allC_appC s this g
  | (t, .bool) :: s, f, a, G, K, h, g => by
    simp only [appC] at g
    split at g <;> try exact g.elim
    rename_i n hv
    have := h n
    rw [put_getD hv (by simp [undef])] at this
    exact allC_appC s this g
  | (t, .ptr) :: s, f, a, G, K, h, g => by
    simp only [appC] at g
    split at g <;> try exact g.elim
    rename_i n hv
    have := h n
    rw [put_getD hv (by simp [undef])] at this
    exact allC_appC s this g
  | (t, .slice) :: s, f, a, G, K, h, g => by
    simp only [appC] at g
    split at g <;> try exact g.elim
    rename_i p l c hv
    have := h p l c
    rw [put_getD hv (by simp [undef])] at this
    exact allC_appC s this g
  | (t, .adr) :: s, f, a, G, K, h, g => by
    simp only [appC] at g
    split at g <;> try exact g.elim
    rename_i n hv
    have := h n
    rw [put_getD hv (by simp [undef])] at this
    exact allC_appC s this g
  | (t, .str) :: s, f, a, G, K, h, g => by
    simp only [appC] at g
    split at g <;> try exact g.elim
    rename_i n hv
    have := h n
    rw [put_getD hv (by simp [undef])] at this
    exact allC_appC s this g
  | (t, .map) :: s, f, a, G, K, h, g => by
    simp only [appC] at g
    split at g <;> try exact g.elim
    rename_i n hv
    have := h n
    rw [put_getD hv (by simp [undef])] at this
    exact allC_appC s this g
  | (t, .agg) :: s, f, a, G, K, h, g => by
    simp only [appC] at g
    split at g <;> try exact g.elim
    rename_i n hv
    have := h n
    rw [put_getD hv (by simp [undef])] at this
    exact allC_appC s this g
  | (t, .any) :: s, f, a, G, K, h, g => by
    simp only [appC] at g
    have := h (a.tmps.getD t undef)
    rw [put_getD_any] at this
    exact allC_appC s this g

theorem appC_mono {β : Type} : ∀ (s : List (Tmp × Shape)) {f : CurT β s} {a : Act} {G G' : β → Prop}, (∀ b, G b → G' b) → appC s f a G → appC s f a G'
  | [], f, a, G, G', hh, g => hh _ g
  | (t, .int k) :: s, f, a, G, G', hh, g => by
    simp only [appC] at g ⊢
    split at g <;> try exact g.elim
    split at g <;> try exact g.elim
    rename_i h
    rw [if_pos h]
    exact appC_mono s hh g
  | (t, .bool) :: s, f, a, G, G', hh, g => by
    simp only [appC] at g ⊢
    split at g <;> try exact g.elim
    exact appC_mono s hh g
  | (t, .ptr) :: s, f, a, G, G', hh, g => by
    simp only [appC] at g ⊢
    split at g <;> try exact g.elim
    exact appC_mono s hh g
  | (t, .slice) :: s, f, a, G, G', hh, g => by
    simp only [appC] at g ⊢
    split at g <;> try exact g.elim
    exact appC_mono s hh g
  | (t, .str) :: s, f, a, G, G', hh, g => by
    simp only [appC] at g ⊢
    split at g <;> try exact g.elim
    exact appC_mono s hh g
  | (t, .map) :: s, f, a, G, G', hh, g => by
    simp only [appC] at g ⊢
    split at g <;> try exact g.elim
    exact appC_mono s hh g
  | (t, .agg) :: s, f, a, G, G', hh, g => by
    simp only [appC] at g ⊢
    split at g <;> try exact g.elim
    exact appC_mono s hh g
  | (t, .adr) :: s, f, a, G, G', hh, g => by
    simp only [appC] at g ⊢
    split at g <;> try exact g.elim
    exact appC_mono s hh g
  | (t, .any) :: s, f, a, G, G', hh, g => by
    simp only [appC] at g ⊢
    exact appC_mono s hh g

theorem least {p : Nat → Prop} (h : ∃ m, p m) : ∃ m, p m ∧ ∀ k, p k → m ≤ k := by
  obtain ⟨m, hm⟩ := h
  induction m using Nat.strongRecOn with
  | _ m ih =>
    by_cases hx : ∃ k, k < m ∧ p k
    · obtain ⟨k, hk, hp⟩ := hx
      exact ih k hk hp
    · exact ⟨m, hm, fun k hk => Nat.le_of_not_lt fun hlt => hx ⟨k, hlt, hk⟩⟩

def Kont.out (κ : Kont) (c : Code) (a : Act) : Exit → Act → World → Prop := fun e a' w' => Agree (mods c) a a' ∧ κ.post e a' w'

theorem seq_sound {P : Program} {x y : Code} {κ : Kont} {N : Act → World → Prop} {a : Act} {w : World}
    (hx : x.wp P ({ κ with norm := N }.out x a) a w) (hy : ∀ a' w', Agree (mods x) a a' → N a' w' → y.wp P (κ.out y a') a' w') : (Code.seq x y).wp P (κ.out (.seq x y) a) a w := by
  refine wp_seq (wp_mono hx ?_)
  rintro e a' w' ⟨hA, hk⟩
  cases e with
  | normal =>
    refine wp_mono (hy a' w' hA hk) ?_
    rintro e2 a2 w2 ⟨hA2, hk2⟩
    exact ⟨hA.trans hA2 (fun t ht => List.mem_append.2 (.inl ht)) (fun t ht => List.mem_append.2 (.inr ht)), hk2⟩
  | exit id => exact ⟨⟨hA.defers, hA.size, fun t ht => hA.tmps t fun x => ht (List.mem_append.2 (.inl x))⟩, hk⟩
  | ret => exact ⟨⟨hA.defers, hA.size, fun t ht => hA.tmps t fun x => ht (List.mem_append.2 (.inl x))⟩, hk⟩
  | goto l => exact hk.elim
  | panic c => exact hk.elim
  | outgrown => exact hk.elim

theorem cmp_sound {P : Program} (hp : Plain P) (hm : P.follows .mixedOrders = true) (c : Code) : ∀ (n : Ann) (κ : Kont) (a : Act) (w : World), cmp P n c κ a w → c.wp P (κ.out c a) a w := by
  induction c with
  | skip => exact fun n κ a w h => wp_skip ⟨Agree.refl _ _, by cases n <;> exact h⟩
  | region id ops draw =>
    intro n κ a w h
    have hr : ∃ anc l, regW P ops draw anc l κ.norm a w := by
      cases n <;> exact ⟨_, _, h⟩
    obtain ⟨anc, l, hr⟩ := hr
    refine wp_mono (regW_sound hp hm hr) ?_
    rintro e a' w' ⟨rfl, hA, hk⟩
    exact ⟨hA, hk⟩
  | seq x y ihx ihy =>
    intro n κ a w h
    have plain : ∀ n₁ n₂, cmp P n₁ x { κ with norm := fun a w => cmp P n₂ y κ a w } a w → (Code.seq x y).wp P (κ.out (.seq x y) a) a w :=
      fun n₁ n₂ h => seq_sound (ihx _ _ _ _ h) fun a' w' _ hk => ihy _ _ _ _ hk
    cases n with
    | seq n₁ n₂ => exact plain n₁ n₂ h
    | meet s n₁ n₂ =>
      obtain ⟨J, h1, h2⟩ := h
      refine seq_sound (ihx _ _ _ _ h1) fun a' w' hA hk => ?_
      have h3 := h2 (fun t => a'.tmps.getD t undef)
      rw [smear_eq hA] at h3
      obtain ⟨j, hj, hK⟩ := allC_appC s h3 hk
      exact ihy _ _ _ _ (hK w' hj)
    | none => exact plain .none .none h
    | one _ => exact plain .none .none h
    | draw _ _ => exact plain .none .none h
    | loop _ _ => exact plain .none .none h
  | cond c x y ihx ihy =>
    intro n κ a w h
    cases hc : a.eval c with
    | bool b =>
      have hb : ∃ n₁ n₂, br b (cmp P n₁ x κ a w) (cmp P n₂ y κ a w) := by
        cases n <;> (simp only [cmp, hc] at h; exact ⟨_, _, h⟩)
      obtain ⟨n₁, n₂, hb⟩ := hb
      rcases br_sound hb with ⟨rfl, hb⟩ | ⟨rfl, hb⟩
      · refine wp_cond_true hc (wp_mono (ihx _ _ _ _ hb) ?_)
        rintro e a' w' ⟨hA, hk⟩
        exact ⟨⟨hA.defers, hA.size, fun t ht => hA.tmps t fun x => ht (List.mem_append.2 (.inl x))⟩, hk⟩
      · refine wp_cond_false hc (wp_mono (ihy _ _ _ _ hb) ?_)
        rintro e a' w' ⟨hA, hk⟩
        exact ⟨⟨hA.defers, hA.size, fun t ht => hA.tmps t fun x => ht (List.mem_append.2 (.inr x))⟩, hk⟩
    | _ => cases n <;> (simp only [cmp, hc] at h)
  | block id c ih =>
    intro n κ a w h
    have hb : ∃ n, cmp P n c { κ with exits := (id, κ.norm) :: κ.exits } a w := by
      cases n <;> exact ⟨_, h⟩
    obtain ⟨n, hb⟩ := hb
    refine wp_block (wp_mono (ih _ _ _ _ hb) ?_)
    rintro e a' w' ⟨hA, hk⟩
    cases e with
    | normal => exact ⟨hA, hk⟩
    | exit id' =>
      simp only [Kont.post, exitsOf] at hk
      simp only [Exit.inBlock]
      split at hk
      · rename_i e; rw [if_pos e]; exact ⟨hA, hk⟩
      · rename_i e; rw [if_neg e]; exact ⟨hA, hk⟩
    | ret => exact ⟨hA, hk⟩
    | goto l => exact hk.elim
    | panic c => exact hk.elim
    | outgrown => exact hk.elim
  | exit id => exact fun n κ a w h => wp_exit ⟨Agree.refl _ _, by cases n <;> exact h⟩
  | ret => exact fun n κ a w h => wp_ret ⟨Agree.refl _ _, by cases n <;> exact h⟩
  | loop c ih =>
    intro n κ a w h
    cases n with
    | loop s n =>
      obtain ⟨I, ⟨m₀, h0⟩, hround⟩ := h
      let G : Act → World → Nat → Prop := fun a' w' m => Agree (mods c) a a' ∧ appC s I a' fun i => i w' m
      let μ : Act → World → Nat := fun a' w' => @dite _ (∃ m, G a' w' m) (Classical.propDecidable _) (fun h => Classical.choose (least h)) (fun _ => 0)
      have hμ : ∀ {a' w'} (h : ∃ m, G a' w' m), G a' w' (μ a' w') := by
        intro a' w' h
        have : μ a' w' = Classical.choose (least h) := dif_pos h
        rw [this]
        exact (Classical.choose_spec (least h)).1
      have hle : ∀ {a' w' m}, G a' w' m → μ a' w' ≤ m := by
        intro a' w' m h
        have : μ a' w' = Classical.choose (least ⟨m, h⟩) := dif_pos ⟨m, h⟩
        rw [this]
        exact (Classical.choose_spec (least ⟨m, h⟩)).2 _ h
      refine wp_loop (fun a' w' => ∃ m, G a' w' m) μ ⟨m₀, Agree.refl _ _, h0⟩ ?_
      intro a' w' hI
      obtain ⟨hA, hi⟩ := hμ hI
      have h3 := hround (fun t => a'.tmps.getD t undef)
      rw [smear_eq hA] at h3
      obtain ⟨i, hiw, hK⟩ := allC_appC s h3 hi
      refine wp_mono (ih _ _ _ _ (hK w' _ hiw)) ?_
      rintro e a2 w2 ⟨hA2, hk⟩
      have hA3 : Agree (mods c) a a2 := hA.trans hA2 (fun _ h => h) (fun _ h => h)
      cases e with
      | normal =>
        obtain ⟨m', hlt, hk⟩ := hk
        exact ⟨⟨m', hA3, hk⟩, Nat.lt_of_le_of_lt (hle ⟨hA3, hk⟩) hlt⟩
      | exit id => exact ⟨hA3, hk⟩
      | ret => exact ⟨hA3, hk⟩
      | goto l => exact hk.elim
      | panic c => exact hk.elim
      | outgrown => exact hk.elim
    | _ => exact h.elim
  | _ => intro n κ a w h; cases n <;> exact h.elim

/-! ### A function -/
/-- The results, in their order: out of a slot, or out of memory. -/
def resL (P : Program) (tmps : Array Value) : List ResultVar → World → (List Value → Prop) → Prop
  | [], w, K => K []
  | .tmp t :: rs, w, K => resL P tmps rs w fun vs => K (tmps.getD t undef :: vs)
  | .cell a t :: rs, w, K => opLoad P t (tmps.getD a undef) w fun v _ => resL P tmps rs w fun vs => K (v :: vs)
def resV (R : Value → World → Prop) (w : World) (vs : List Value) : Prop :=
  match vs with
  | [v] => R v w
  | vs => R (.tuple vs.toArray) w
/-- What is owed where the function returns. -/
def resW (P : Program) (fn : Func) (R : Value → World → Prop) (a : Act) (w : World) : Prop :=
  match a.defers with
  | [] => resL P a.tmps fn.results.toList w (resV R w)
  | _ => False
theorem resL_sound {P : Program} {tmps : Array Value} {w : World} : ∀ {rs : List ResultVar} {K : List Value → Prop}, resL P tmps rs w K →
    ∃ vs, K vs ∧ (rs.mapM (m := Sem) fun | .tmp t => pure (tmps.getD t undef) | .cell a t => do loadVar t (← asAddr (tmps.getD a undef))).run P w = .ok vs w
  | [], K, h => ⟨[], h, by simp⟩
  | .tmp t :: rs, K, h => by
    obtain ⟨vs, hk, hr⟩ := resL_sound (rs := rs) h
    refine ⟨_, hk, ?_⟩
    rw [List.mapM_cons]
    simp [-Array.getD_eq_getD_getElem?, hr]
  | .cell a t :: rs, K, h => by
    obtain ⟨v, S, hk, hS, hl⟩ := opLoad_sound h
    obtain ⟨vs, hk, hr⟩ := resL_sound (rs := rs) hk
    refine ⟨_, hk, ?_⟩
    have hl := hl w hS
    rw [List.mapM_cons]
    cases hx : tmps.getD a undef with
    | pointer p =>
      rw [hx] at hl
      cases p with
      | none => simp [Instr.loadAt, Instr.sureAddr, stuck] at hl
      | some a' =>
        simp [Instr.loadAt, Instr.sureAddr] at hl
        have ha : (asAddr (tmps.getD a undef)).run P w = .ok a' w := by rw [hx]; rfl
        simp [-Array.getD_eq_getD_getElem?, ha, hl, hr]
    | _ => rw [hx] at hl; simp [Instr.loadAt, Instr.sureAddr, stuck] at hl
theorem resW_sound {P : Program} {fn : Func} {R : Value → World → Prop} {a : Act} {w : World} (h : resW P fn R a w) :
    a.defers = [] ∧ ∃ v, (results fn a.tmps).run P w = .ok v w ∧ R v w := by
  unfold resW at h
  split at h <;> try exact h.elim
  rename_i hd
  refine ⟨hd, ?_⟩
  obtain ⟨vs, hk, hr⟩ := resL_sound h
  have e : (results fn a.tmps).run P w = .ok (if h : vs.toArray.size = 1 then vs.toArray[0] else .tuple vs.toArray) w := by
    unfold results
    rw [Array.mapM_eq_mapM_toList]
    simp only [Sem.run_bind, Sem.run_map, Sem.run_pure]
    have h2 := congrArg (fun r => (Result.andThen r fun (vs : List Value) w' => Result.ok vs.toArray w').andThen fun (vs : Array Value) w' => Result.ok (if h : vs.size = 1 then vs[0] else Value.tuple vs) w') hr
    exact h2
  refine ⟨_, e, ?_⟩
  unfold resV at hk
  split at hk
  · simpa using hk
  · rename_i hne
    rw [dif_neg]
    · exact hk
    · intro h1
      obtain ⟨v, rfl⟩ := List.length_eq_one_iff.1 (by simpa using h1)
      exact hne v rfl

def fnW (P : Program) (fn : Func) (n : Ann) (args : Array Value) (R : Value → World → Prop) (w : World) : Prop :=
  match fn.body with
  | some c => cmp P n c { norm := resW P fn R, exits := [], ret := resW P fn R } { tmps := args ++ Array.replicate (fn.ntmps - args.size) undef, defers := [] } w
  | none => False

theorem call_of_fnW {P : Program} (hp : Plain P) (hm : P.follows .mixedOrders = true) {f : FuncId} {fn : Func} (hf : P.funcs[f]? = some fn) (n : Ann) {args : Array Value} {R : Value → World → Prop} {w : World}
    (h : fnW P fn n args R w) : call P f args w R := by
  unfold fnW at h
  split at h <;> try exact h.elim
  rename_i c hb
  refine calls_of_wp hf hb (wp_mono (cmp_sound hp hm c n _ _ _ h) ?_)
  rintro e a w' ⟨_, hk⟩
  cases e with
  | normal =>
    obtain ⟨hd, v, hr, hR⟩ := resW_sound hk
    exact ⟨hd, v, hr, v, rfl, hR⟩
  | ret =>
    obtain ⟨hd, v, hr, hR⟩ := resW_sound hk
    exact ⟨hd, v, hr, v, rfl, hR⟩
  | exit id => exact hk.elim
  | goto l => exact hk.elim
  | panic c => exact hk.elim
  | outgrown => exact hk.elim

end Go.Sp
