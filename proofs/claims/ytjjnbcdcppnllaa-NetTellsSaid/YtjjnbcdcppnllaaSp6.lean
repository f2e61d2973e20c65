/- Heaps apart: a small separation logic over the model's worlds, and its rules for the words of the compile. No conditions. -/
import Derived.Test.YtjjnbcdcppnllaaSp1
import Derived.RangeFuncRecord
import Derived.Laws.AppendOwn
import Derived.Laws.BytesArg
import Derived.Deep.Draws
set_option linter.unusedVariables false
set_option linter.unusedSimpArgs false
set_option maxRecDepth 100000
namespace Go.Sp
open Go.RowKit

abbrev Heap := Nat → Option Obj
structure HP where
  holds : Heap → Prop
def Heap.sub (h k : Heap) : Prop := ∀ b o, h b = some o → k b = some o
def Heap.apart (h k : Heap) : Prop := ∀ b, h b = none ∨ k b = none
def HP.sep (A B : HP) : HP := ⟨fun h => ∃ h1 h2 : Heap, h1.apart h2 ∧ h1.sub h ∧ h2.sub h ∧ A.holds h1 ∧ B.holds h2⟩
instance : Mul HP := ⟨HP.sep⟩
def emp : HP := ⟨fun _ => True⟩
def prop (p : Prop) : HP := ⟨fun _ => p⟩
def ob (b : Nat) (o : Obj) : HP := ⟨fun h => h b = some o⟩
abbrev blk (b : Nat) (cs : Array Value) (t : TypeId) : HP := ob b (.cells cs t (0, 0))
def ex {α : Type} (f : α → HP) : HP := ⟨fun h => ∃ x, (f x).holds h⟩
/-- All of an older world's blocks, as they were. -/
def old (w : World) : HP := ⟨fun h => ∀ b o, w.heap[b]? = some o → h b = some o⟩
/-- A slice that is its holder's own: nil, or it begins a block. -/
def own (t : TypeId) (sz : Nat) (p : Option Addr) (l c : Nat) (xs : List Value) : HP :=
  ⟨fun h => xs.length = l * sz ∧ ((p = none ∧ l = 0 ∧ c = 0) ∨
    ∃ g cur, p = some ⟨g, 0, none⟩ ∧ h g = some (.cells cur t (0, 0)) ∧ l ≤ c ∧ c ≤ maxLen ∧ cur.size = c * sz ∧ cur.toList.take (l * sz) = xs)⟩

theorem Heap.sub_refl (h : Heap) : h.sub h := fun _ _ e => e
theorem Heap.sub_trans {a b c : Heap} (h : a.sub b) (k : b.sub c) : a.sub c := fun x o e => k x o (h x o e)
theorem Heap.apart_symm {a b : Heap} (h : a.apart b) : b.apart a := fun x => (h x).symm
theorem Heap.apart_sub {a b a' b' : Heap} (h : a.apart b) (ha : a'.sub a) (hb : b'.sub b) : a'.apart b' := fun x => by
  rcases h x with h | h
  · left
    cases e : a' x with
    | none => rfl
    | some o => rw [ha x o e] at h; cases h
  · right
    cases e : b' x with
    | none => rfl
    | some o => rw [hb x o e] at h; cases h
def Heap.join (a b : Heap) : Heap := fun x => (a x).or (b x)
theorem Heap.sub_join_left (a b : Heap) : a.sub (a.join b) := fun x o e => by simp [Heap.join, e]
theorem Heap.sub_join_right {a b : Heap} (h : a.apart b) : b.sub (a.join b) := fun x o e => by
  rcases h x with h | h
  · simp [Heap.join, h, e]
  · rw [h] at e; cases e
theorem Heap.join_sub {a b c : Heap} (ha : a.sub c) (hb : b.sub c) : (a.join b).sub c := fun x o e => by
  simp only [Heap.join] at e
  cases ea : a x with
  | some o' => rw [ea] at e; simp at e; subst e; exact ha x _ ea
  | none => rw [ea] at e; simp at e; exact hb x _ e

theorem sep_comm (A B : HP) : A * B = B * A := by
  have : ∀ A B : HP, ∀ h, (HP.sep A B).holds h → (HP.sep B A).holds h := fun A B h ⟨h1, h2, ha, s1, s2, x, y⟩ => ⟨h2, h1, Heap.apart_symm ha, s2, s1, y, x⟩
  show HP.sep A B = HP.sep B A
  have e : (HP.sep A B).holds = (HP.sep B A).holds := funext fun h => propext ⟨this A B h, this B A h⟩
  exact congrArg HP.mk e
theorem sep_assoc (A B C : HP) : A * B * C = A * (B * C) := by
  show HP.sep (HP.sep A B) C = HP.sep A (HP.sep B C)
  have e : (HP.sep (HP.sep A B) C).holds = (HP.sep A (HP.sep B C)).holds := funext fun h => propext (by
    constructor
    · rintro ⟨h12, h3, ha, s12, s3, ⟨h1, h2, ha2, t1, t2, x, y⟩, z⟩
      have a23 : h2.apart h3 := Heap.apart_sub ha t2 (Heap.sub_refl _)
      have a13 : h1.apart h3 := Heap.apart_sub ha t1 (Heap.sub_refl _)
      refine ⟨h1, h2.join h3, ?_, Heap.sub_trans t1 s12, Heap.join_sub (Heap.sub_trans t2 s12) s3, x, h2, h3, a23, Heap.sub_join_left _ _, Heap.sub_join_right a23, y, z⟩
      intro b
      rcases ha2 b with h | h
      · exact .inl h
      · rcases a13 b with h' | h'
        · exact .inl h'
        · exact .inr (by simp [Heap.join, h, h'])
    · rintro ⟨h1, h23, ha, s1, s23, x, h2, h3, ha2, t2, t3, y, z⟩
      have a12 : h1.apart h2 := Heap.apart_sub ha (Heap.sub_refl _) t2
      have a13 : h1.apart h3 := Heap.apart_sub ha (Heap.sub_refl _) t3
      refine ⟨h1.join h2, h3, ?_, Heap.join_sub s1 (Heap.sub_trans t2 s23), Heap.sub_trans t3 s23, ⟨h1, h2, a12, Heap.sub_join_left _ _, Heap.sub_join_right a12, x, y⟩, z⟩
      intro b
      rcases ha2 b with h | h
      · rcases a13 b with h' | h'
        · exact .inl (by simp [Heap.join, h, h'])
        · exact .inr h'
      · exact .inr h)
  exact congrArg HP.mk e
theorem sep_left_comm (A B C : HP) : A * (B * C) = B * (A * C) := by rw [← sep_assoc, sep_comm A B, sep_assoc]
instance : Std.Associative (α := HP) (· * ·) := ⟨sep_assoc⟩
instance : Std.Commutative (α := HP) (· * ·) := ⟨sep_comm⟩

/-- The world, seen from an older one: the streams are as they were, and it bears the assertion. -/
structure Sat (w₀ : World) (A : HP) (w : World) : Prop where
  os : w.os = w₀.os
  tape : w.tape = w₀.tape
  output : w.output = w₀.output
  size : w₀.heap.size ≤ w.heap.size
  heap : ∃ h : Heap, (∀ b o, h b = some o → w.heap[b]? = some o) ∧ A.holds h

section
variable {w₀ w : World} {A B C F : HP}
theorem Sat.start (w : World) : Sat w (old w) w := ⟨rfl, rfl, rfl, Nat.le_refl _, fun b => w.heap[b]?, fun _ _ h => h, fun _ _ h => h⟩
theorem Sat.start_emp (w : World) : Sat w emp w := ⟨rfl, rfl, rfl, Nat.le_refl _, fun b => w.heap[b]?, fun _ _ h => h, trivial⟩
theorem Sat.perm (h : Sat w₀ A w) (e : A = B) : Sat w₀ B w := e ▸ h
theorem Sat.left (h : Sat w₀ (A * B) w) : Sat w₀ A w := by
  obtain ⟨k, hk, h1, h2, _, s1, _, a, _⟩ := h.heap
  exact ⟨h.os, h.tape, h.output, h.size, h1, fun b o e => hk b o (s1 b o e), a⟩
theorem Sat.right (h : Sat w₀ (A * B) w) : Sat w₀ B w := (h.perm (sep_comm A B)).left
theorem Sat.drew (h : Sat w₀ A w) : Sat w₀ A w.drew := ⟨h.os, h.tape, h.output, h.size, h.heap⟩
theorem Sat.emp (h : Sat w₀ A w) : Sat w₀ emp w := by
  obtain ⟨k, hk, _⟩ := h.heap
  exact ⟨h.os, h.tape, h.output, h.size, k, hk, trivial⟩
theorem Sat.with_emp (h : Sat w₀ A w) : Sat w₀ (Sp.emp * A) w := by
  obtain ⟨k, hk, a⟩ := h.heap
  exact ⟨h.os, h.tape, h.output, h.size, k, hk, fun _ => none, k, fun _ => .inl rfl, fun _ _ e => (by cases e), Heap.sub_refl _, trivial, a⟩
theorem Sat.of_emp (h : Sat w₀ (Sp.emp * A) w) : Sat w₀ A w := h.right
theorem Sat.ob {b : Nat} {o : Obj} (h : Sat w₀ (ob b o * F) w) : w.heap[b]? = some o := by
  obtain ⟨k, hk, h1, h2, _, s1, _, a, _⟩ := h.heap
  exact hk _ _ (s1 _ _ a)
theorem Sat.ob' {b : Nat} {o : Obj} (h : Sat w₀ (Sp.ob b o) w) : w.heap[b]? = some o := by
  obtain ⟨k, hk, a⟩ := h.heap
  exact hk _ _ a
theorem Sat.cell {b : Nat} {cs : Array Value} {t : TypeId} (h : Sat w₀ (blk b cs t) w) {i : Nat} {v : Value} (hv : cs[i]? = some v) : w.cell? ⟨b, i, none⟩ = some v := by
  simp [World.cell?, h.ob', hv]
theorem Sat.old_heap {w₁ : World} (h : Sat w₀ (old w₁) w) {b : Nat} {o : Obj} (hb : w₁.heap[b]? = some o) : w.heap[b]? = some o := by
  obtain ⟨k, hk, a⟩ := h.heap
  exact hk _ _ (a b o hb)
theorem Sat.old_cell {w₁ : World} (h : Sat w₀ (old w₁) w) {a : Addr} {v : Value} (hc : w₁.cell? a = some v) : w.cell? a = some v := by
  have hlt := World.block_lt_of_cell? w₁ a hc
  have hb : w₁.heap[a.block]? = some w₁.heap[a.block] := by simp [hlt]
  exact (World.cell?_of_block (w := w₁) ((h.old_heap hb).trans hb.symm)).trans hc
theorem Sat.prop {p : Prop} (h : Sat w₀ (Sp.prop p * A) w) : p := by
  obtain ⟨k, hk, h1, h2, _, s1, _, a, _⟩ := h.heap
  exact a
theorem Sat.add_prop {p : Prop} (hp : p) (h : Sat w₀ A w) : Sat w₀ (Sp.prop p * A) w := by
  obtain ⟨k, hk, a⟩ := h.heap
  exact ⟨h.os, h.tape, h.output, h.size, k, hk, fun _ => none, k, fun _ => .inl rfl, fun _ _ e => (by cases e), Heap.sub_refl _, hp, a⟩
theorem Sat.ex {α : Type} {f : α → HP} (h : Sat w₀ (ex f * F) w) : ∃ x, Sat w₀ (f x * F) w := by
  obtain ⟨k, hk, h1, h2, ha, s1, s2, ⟨x, a⟩, b⟩ := h.heap
  exact ⟨x, h.os, h.tape, h.output, h.size, k, hk, h1, h2, ha, s1, s2, a, b⟩
theorem Sat.to_ex {α : Type} {f : α → HP} (x : α) (h : Sat w₀ (f x * F) w) : Sat w₀ (Sp.ex f * F) w := by
  obtain ⟨k, hk, h1, h2, ha, s1, s2, a, b⟩ := h.heap
  exact ⟨h.os, h.tape, h.output, h.size, k, hk, h1, h2, ha, s1, s2, ⟨x, a⟩, b⟩
/-- A part is turned into another one that it entails. -/
theorem Sat.imp (h : Sat w₀ (A * F) w) (hi : ∀ k, A.holds k → B.holds k) : Sat w₀ (B * F) w := by
  obtain ⟨k, hk, h1, h2, ha, s1, s2, a, b⟩ := h.heap
  exact ⟨h.os, h.tape, h.output, h.size, k, hk, h1, h2, ha, s1, s2, hi _ a, b⟩
theorem Sat.below {w₁ : World} (h : Sat w₁ (old w₁ * F) w) : Below w₁.heap.size w₁ w := by
  refine ⟨h.os, h.tape, h.output, h.size, fun k hk => ?_⟩
  have hb : w₁.heap[k]? = some w₁.heap[k] := by simp [hk]
  exact (h.left.old_heap hb).trans hb.symm

/-- A step of the world that keeps all blocks but some, which the frame doesn't bear. -/
theorem Sat.step {w' : World} (h : Sat w₀ (A * F) w) (hos : w'.os = w.os) (htape : w'.tape = w.tape) (hout : w'.output = w.output) (hsize : w.heap.size ≤ w'.heap.size)
    (hA : ∀ h1 : Heap, A.holds h1 → (∀ b o, h1 b = some o → w.heap[b]? = some o) →
      ∃ h1' : Heap, B.holds h1' ∧ (∀ b o, h1' b = some o → w'.heap[b]? = some o) ∧ (∀ b o, h1' b = some o → h1 b = none → w.heap[b]? = none) ∧
        ∀ b o, h1 b = none → w.heap[b]? = some o → w'.heap[b]? = some o) : Sat w₀ (B * F) w' := by
  obtain ⟨k, hk, h1, h2, ha, s1, s2, a, b⟩ := h.heap
  obtain ⟨h1', hB, hw', hnew, hkeep⟩ := hA h1 a fun b o e => hk b o (s1 b o e)
  have hap : h1'.apart h2 := by
    intro x
    cases e1 : h1' x with
    | none => exact .inl rfl
    | some o =>
      right
      cases e2 : h2 x with
      | none => rfl
      | some o2 =>
        rcases ha x with e | e
        · have := hnew x o e1 e
          rw [hk x o2 (s2 x o2 e2)] at this
          cases this
        · rw [e] at e2; cases e2
  refine ⟨hos.trans h.os, htape.trans h.tape, hout.trans h.output, Nat.le_trans h.size hsize, h1'.join h2, ?_, h1', h2, hap, Heap.sub_join_left _ _, Heap.sub_join_right hap, hB, b⟩
  intro x o e
  simp only [Heap.join] at e
  cases e1 : h1' x with
  | some o' => rw [e1] at e; simp at e; subst e; exact hw' x _ e1
  | none =>
    rw [e1] at e
    simp at e
    rcases ha x with e2 | e2
    · exact hkeep x o e2 (hk x o (s2 x o e))
    · rw [e2] at e; cases e

theorem Sat.setCell {b i : Nat} {cs : Array Value} {t : TypeId} (h : Sat w₀ (blk b cs t * F) w) (v : Value) (hi : i < cs.size) :
    Sat w₀ (blk b (cs.setIfInBounds i v) t * F) (w.setCell ⟨b, i, none⟩ v) := by
  have hb := h.ob
  have hlt : b < w.heap.size := (Array.getElem?_eq_some_iff.1 hb).1
  refine h.step rfl rfl rfl (by simp [World.setCell]) ?_
  intro h1 a hw
  refine ⟨fun x => if x = b then some (.cells (cs.setIfInBounds i v) t (0, 0)) else none, by simp [Sp.ob], ?_, ?_, ?_⟩
  · intro x o e
    dsimp only at e
    split at e
    · rename_i e'
      subst e'
      cases e
      simp only [World.setCell, Array.getElem?_modify]
      simp [hb]
    · cases e
  · intro x o e e1
    dsimp only at e
    split at e
    · rename_i e'; subst e'; have a' : h1 x = _ := a; rw [a'] at e1; cases e1
    · cases e
  · intro x o e1 hx
    have hne : x ≠ b := by rintro rfl; have a' : h1 x = _ := a; rw [a'] at e1; cases e1
    rw [Below.heap_setCell _ _ _ _ hne]
    exact hx
theorem Sat.alloc (h : Sat w₀ F w) (o : Obj) : Sat w₀ (Sp.ob w.heap.size o * F) (w.alloc o) := by
  refine (h.with_emp).step rfl rfl rfl (by simp) ?_
  intro h1 _ hw
  refine ⟨fun x => if x = w.heap.size then some o else none, by simp [Sp.ob], ?_, ?_, ?_⟩
  · intro x o' e
    dsimp only at e
    split at e
    · rename_i e'; subst e'; cases e; exact heap_alloc_new w o
    · cases e
  · intro x o' e e1
    dsimp only at e
    split at e
    · rename_i e'; subst e'; simp
    · cases e
  · intro x o' e1 hx
    exact (Below.heap_alloc w o x (Array.getElem?_eq_some_iff.1 hx).1).trans hx
end

/-- A block becomes something else. -/
theorem Sat.putObj {w₀ w : World} {F : HP} {b : Nat} {o : Obj} (h : Sat w₀ (Sp.ob b o * F) w) (o' : Obj) : Sat w₀ (Sp.ob b o' * F) (w.putObj b o') := by
  have hb := h.ob
  have hlt : b < w.heap.size := (Array.getElem?_eq_some_iff.1 hb).1
  refine h.step rfl rfl rfl (by simp) ?_
  intro h1 a hw
  refine ⟨fun x => if x = b then some o' else none, by simp [Sp.ob], ?_, ?_, ?_⟩
  · intro x ox e
    dsimp only at e
    split at e
    · rename_i e'; subst e'; cases e; exact World.putObj_heap_same hlt
    · cases e
  · intro x ox e e1
    dsimp only at e
    split at e
    · rename_i e'; subst e'; have a' : h1 x = _ := a; rw [a'] at e1; cases e1
    · cases e
  · intro x ox e1 hx
    have hne : x ≠ b := by rintro rfl; have a' : h1 x = _ := a; rw [a'] at e1; cases e1
    exact (World.putObj_heap_other hne).trans hx

/-! ### own -/
section
variable {w₀ w : World} {A B C F : HP} {t : TypeId} {sz : Nat} {p : Option Addr} {l c : Nat} {xs : List Value}
theorem Sat.own_len (h : Sat w₀ (own t sz p l c xs) w) : xs.length = l * sz := by
  obtain ⟨k, hk, a⟩ := h.heap
  exact a.1
theorem Sat.own_row (h : Sat w₀ (own t sz p l c xs) w) : w.ownsRow 0 t sz (.slice p l c) l xs := by
  obtain ⟨k, hk, hl, a⟩ := h.heap
  refine ⟨hl, ?_⟩
  rcases a with ⟨rfl, rfl, rfl⟩ | ⟨g, cur, rfl, hg, h1, h2, h3, h4⟩
  · exact .inl ⟨rfl, rfl⟩
  · exact .inr ⟨g, c, cur, rfl, Nat.zero_le _, hk _ _ hg, h1, h2, h3, h4⟩
theorem Sat.own_cell (h : Sat w₀ (own t sz p l c xs) w) {a : Addr} (hp : p = some a) {j : Nat} {v : Value} (hv : xs[j]? = some v) : w.cell? (a.add j) = some v := by
  have hr := h.own_row
  subst hp
  rcases hr.2 with ⟨e, _⟩ | ⟨g, cap, cur, e, _⟩
  · cases e
  · cases e
    exact hr.cells (g := g) rfl j v hv
theorem own_nil_holds (h : Heap) : (own t sz none 0 0 []).holds h := ⟨by simp, .inl ⟨rfl, rfl, rfl⟩⟩
theorem Sat.own_nil (t : TypeId) (sz : Nat) (h : Sat w₀ F w) : Sat w₀ (own t sz none 0 0 [] * F) w := (h.with_emp).imp fun k _ => own_nil_holds k
theorem Sat.own_full {b : Nat} {cs : Array Value} {n : Nat} (h : Sat w₀ (blk b cs t * F) w) (hs : cs.size = n * sz) (hn : n ≤ maxLen) : Sat w₀ (own t sz (some ⟨b, 0, none⟩) n n cs.toList * F) w :=
  h.imp fun k a => ⟨by simp [hs], .inr ⟨b, cs, rfl, a, Nat.le_refl _, hn, hs, by rw [← hs, ← Array.length_toList, List.take_length]⟩⟩
/-- 'append', by a law that tells what it gives in the kit's words. -/
theorem Sat.own_grown {w' : World} {p' : Option Addr} {l' c' : Nat} {ys : List Value} (h : Sat w₀ (own t sz p l c xs * F) w) (hown : w'.ownsRow 0 t sz (.slice p' l' c') l' ys)
    (hg : w.grownBy w' (Value.slice p l c).ownBlock) (hblock : (Value.slice p' l' c').ownBlock = (Value.slice p l c).ownBlock ∨ ∃ b, (Value.slice p' l' c').ownBlock = some b ∧ w.heap.size ≤ b) :
    Sat w₀ (own t sz p' l' c' ys * F) w' := by
  refine h.step hg.os hg.tape hg.output hg.size ?_
  intro h1 a hw
  have hrow : ∀ b o, h1 b = none → w.heap[b]? = some o → some b ≠ (Value.slice p l c).ownBlock := by
    intro b o e hb he
    rcases a.2 with ⟨rfl, _, _⟩ | ⟨g, cur, rfl, hgk, _⟩
    · simp [Value.ownBlock] at he
    · simp only [Value.ownBlock, Option.some.injEq] at he
      subst he
      rw [e] at hgk
      cases hgk
  rcases hown.2 with ⟨e, hl0⟩ | ⟨g, cap, cur, e, _, hgw, h1', h2', h3', h4'⟩
  · cases e
    refine ⟨fun _ => none, ⟨hown.1, .inl ⟨rfl, rfl, rfl⟩⟩, fun _ _ e => (by cases e), fun _ _ e => (by cases e), fun b o e hb => ?_⟩
    rw [hg.block b (Array.getElem?_eq_some_iff.1 hb).1 (hrow b o e hb)]
    exact hb
  · cases e
    refine ⟨fun x => if x = g then some (.cells cur t (0, 0)) else none, ⟨hown.1, .inr ⟨g, cur, rfl, by simp, h1', h2', h3', h4'⟩⟩, ?_, ?_, ?_⟩
    · intro x o e
      dsimp only at e
      split at e
      · rename_i e'; subst e'; cases e; exact hgw
      · cases e
    · intro x o e e1
      dsimp only at e
      split at e
      · rename_i e'
        subst e'
        rcases hblock with hb | ⟨b, hb, hle⟩
        · simp only [Value.ownBlock] at hb
          rcases a.2 with ⟨rfl, _, _⟩ | ⟨g', cur', rfl, hgk, _⟩
          · simp at hb
          · simp only [Option.some.injEq] at hb
            subst hb
            rw [hgk] at e1
            cases e1
        · simp only [Value.ownBlock, Option.some.injEq] at hb
          subst hb
          simpa using hle
      · cases e
    · intro b o e hb
      rw [hg.block b (Array.getElem?_eq_some_iff.1 hb).1 (hrow b o e hb)]
      exact hb
end
end Go.Sp
