/- Worlds that differ in what was drawn alone; small words for bytes. No conditions. -/
import Derived.Test.YtjjnbcdcppnllaaSp7
set_option linter.unusedVariables false
set_option linter.unusedSimpArgs false
set_option maxRecDepth 100000
namespace Go.Sp
open Go.RowKit

/-- The same memory and streams. -/
structure Same (w w' : World) : Prop where
  heap : w'.heap = w.heap
  os : w'.os = w.os
  tape : w'.tape = w.tape
  output : w'.output = w.output
theorem Same.refl (w : World) : Same w w := ⟨rfl, rfl, rfl, rfl⟩
theorem Same.drew {w w' : World} (h : Same w w') : Same w w'.drew := ⟨h.heap, h.os, h.tape, h.output⟩
theorem Same.trans {a b c : World} (h : Same a b) (k : Same b c) : Same a c := ⟨k.heap.trans h.heap, k.os.trans h.os, k.tape.trans h.tape, k.output.trans h.output⟩
theorem Same.cell {w w' : World} (h : Same w w') (a : Addr) : w'.cell? a = w.cell? a := by simp [World.cell?, h.heap]
theorem Sat.same {w₀ w w' : World} {A : HP} (h : Sat w₀ A w) (k : Same w w') : Sat w₀ A w' := by
  obtain ⟨q, hq, a⟩ := h.heap
  exact ⟨k.os.trans h.os, k.tape.trans h.tape, k.output.trans h.output, by rw [k.heap]; exact h.size, q, fun b o e => by rw [k.heap]; exact hq b o e, a⟩
theorem Rd.same {w w' : World} {sz l : Nat} {p : Option Addr} {xs : List Value} (h : Rd w sz p l xs) (k : Same w w') : Rd w' sz p l xs :=
  ⟨h.1, h.2.1, fun a e j u hj => (k.cell _).trans (h.2.2 a e j u hj)⟩
/-- A function that only reads. -/
def Reads (P : Program) (f : FuncId) (args : Array Value) (w : World) (v : Value) : Prop := call P f args w fun u w' => u = v ∧ Same w w'
theorem call_reads {P : Program} {w : World} {f : FuncId} {args : Array Value} {v : Value} {K : Value → World → Prop} (h : Reads P f args w v) (hk : ∀ w', Same w w' → K v w') : call P f args w K :=
  call_mono h fun u w' ⟨e, e'⟩ => by rw [e]; exact hk w' e'
theorem PureCall.reads {P : Program} {f : FuncId} {args : Array Value} {v : Value} (h : PureCall P f args v) (w : World) : Reads P f args w v :=
  call_mono (h w) fun u w' ⟨e, e'⟩ => ⟨e, by rw [e']; exact Same.refl w⟩

/-- '[]byte(constant)': the new bytes are marked. -/
theorem conv_ok {w₀ w : World} {F : HP} {P : Program} {s e : TypeId} {b l c : Nat} {cs : Array Value} {t : TypeId} {K : Option Addr → Nat → Nat → World → Prop} (hs : P.underlying s = some (.slice e)) (he : P.underlying e = some (.int .u8))
    (h : Sat w₀ (blk b cs t * F) w) (hk : ∀ w', Sat w₀ (ob b (.cells cs t (cs.size, cs.size + 1)) * F) w' → K (some ⟨b, 0, none⟩) l c w') :
    runsS P (convert s s (.slice (some ⟨b, 0, none⟩) l c)) w K := by
  have hb := h.ob
  have hr : (convert s s (.slice (some ⟨b, 0, none⟩) l c)).run P w = .ok (.slice (some ⟨b, 0, none⟩) l c) (w.freeze ⟨b, cs.size, none⟩ 1) := by
    simp [convert, run_underlying hs, run_underlying he, markStringish, shape, freeze, Sem.run, World.shape?, hb]
  refine ⟨_, _, _, _, hr, hk _ ?_⟩
  refine h.step (by simp [World.freeze]) (by simp [World.freeze]) (by simp [World.freeze]) (by simp [World.freeze]) ?_
  intro h1 a hw
  refine ⟨fun x => if x = b then some (.cells cs t (cs.size, cs.size + 1)) else none, by simp [Sp.ob], ?_, ?_, ?_⟩
  · intro x o e
    dsimp only at e
    split at e
    · rename_i e'; subst e'; cases e; simp [World.freeze, Array.getElem?_modify, hb]
    · cases e
  · intro x o e e1
    dsimp only at e
    split at e
    · rename_i e'; subst e'; have a' : h1 x = _ := a; rw [a'] at e1; cases e1
    · cases e
  · intro x o e1 hx
    have hne : x ≠ b := by rintro rfl; have a' : h1 x = _ := a; rw [a'] at e1; cases e1
    simp only [World.freeze]
    rw [if_neg (by omega)]
    simp only [Array.getElem?_modify]
    rw [if_neg (fun e => hne e.symm)]
    exact hx

/-- What is at hand tells what a slice holds. -/
def Gives (F : HP) (sz : Nat) (p : Option Addr) (l : Nat) (xs : List Value) : Prop := ∀ w₀ w, Sat w₀ F w → Rd w sz p l xs
theorem Gives.old {w : World} {sz : Nat} {p : Option Addr} {l : Nat} {xs : List Value} (h : Rd w sz p l xs) : Gives (old w) sz p l xs := fun _ _ hs => h.old hs
theorem Gives.own {t : TypeId} {sz : Nat} {p : Option Addr} {l c : Nat} {xs : List Value} : Gives (own t sz p l c xs) sz p l xs := fun _ _ hs => hs.rd
theorem Gives.left {A B : HP} {sz : Nat} {p : Option Addr} {l : Nat} {xs : List Value} (h : Gives A sz p l xs) : Gives (A * B) sz p l xs := fun _ _ hs => h _ _ hs.left
theorem Gives.right {A B : HP} {sz : Nat} {p : Option Addr} {l : Nat} {xs : List Value} (h : Gives B sz p l xs) : Gives (A * B) sz p l xs := fun _ _ hs => h _ _ hs.right
theorem Gives.nil (F : HP) (sz : Nat) (p : Option Addr) : Gives F sz p 0 [] := fun _ w _ => Rd.nil w sz p
theorem Gives.ob {b : Nat} {cs : Array Value} {t : TypeId} {fr : Nat × Nat} {sz l : Nat} (hl : cs.size = l * sz) : Gives (Sp.ob b (.cells cs t fr)) sz (some ⟨b, 0, none⟩) l cs.toList := fun _ _ hs => hs.rd_ob hl

/-- Bytes. -/
def by8 (bs : List Int) : List Value := bs.map fun x => .int .u8 x
theorem by8_length (bs : List Int) : (by8 bs).length = bs.length := by simp [by8]
theorem by8_append (a b : List Int) : by8 (a ++ b) = by8 a ++ by8 b := by simp [by8]
theorem by8_get {bs : List Int} {j : Nat} {x : Int} (h : bs[j]? = some x) : (by8 bs)[j]? = some (.int .u8 x) := by simp [by8, h]
theorem by8_one (bs : List Int) : ∀ u ∈ by8 bs, u.oneCell' = true := by
  intro u hu
  simp only [by8, List.mem_map] at hu
  obtain ⟨x, _, rfl⟩ := hu
  rfl
theorem zeros_by8 (m : Nat) : zerosOf (.int .u8 0) m = by8 (List.replicate m 0) := by
  apply List.ext_getElem
  · simp [zerosOf, Builtin.zeroCells, by8, Value.cells]
  · intro i h1 h2
    simp [zerosOf, Builtin.zeroCells, by8, Value.cells, Nat.mod_one]
theorem Rd.len8 {w : World} {p : Option Addr} {l : Nat} {bs : List Int} (h : Rd w 1 p l (by8 bs)) : bs.length = l := by
  have := h.1
  rw [by8_length] at this
  omega
theorem own_len8 {w₀ w : World} {t : TypeId} {p : Option Addr} {l c : Nat} {bs : List Int} (h : Sat w₀ (own t 1 p l c (by8 bs)) w) : bs.length = l := h.rd.len8
/-- An element of bytes that are read. -/
theorem idx8 {w w' : World} {p : Option Addr} {l : Nat} {bs : List Int} {i : Int} {K : Addr → Prop} (h : Rd w 1 p l (by8 bs)) (h0 : 0 ≤ i) (h1 : i < (l : Int)) (hw : Same w w')
    (hk : ∀ a x, bs[i.toNat]? = some x → w'.cell? a = some (.int .u8 x) → K a) : idx p l i 1 K := by
  refine idx_ok h h0 h1 fun a e => ?_
  have hlt : i.toNat < bs.length := by have := h.len8; omega
  refine hk _ bs[i.toNat] (by simp [hlt]) ?_
  rw [Nat.mul_one, hw.cell]
  exact h.get e (by8_get (by simp [hlt]))
/-! ### a part of what is read -/
theorem Rd.sub {w : World} {sz : Nat} {p : Option Addr} {l c lo hi : Nat} {xs : List Value} (h : Rd w sz p l xs) (h1 : lo ≤ hi) (h2 : hi ≤ l) (hc : l ≤ c) :
    Rd w sz (if c = lo then p else p.map (·.add (lo * sz))) (hi - lo) ((xs.drop (lo * sz)).take ((hi - lo) * sz)) := by
  have hx := h.1
  have e1 : lo * sz + (hi - lo) * sz = hi * sz := by rw [← Nat.add_mul]; congr 1; omega
  have e2 : hi * sz ≤ l * sz := Nat.mul_le_mul_right _ h2
  refine ⟨by rw [List.length_take, List.length_drop, hx]; omega, fun hp => ?_, fun a e j u hj => ?_⟩
  · obtain ⟨a, rfl⟩ := h.2.1 (by omega)
    split
    · exact ⟨a, rfl⟩
    · exact ⟨_, rfl⟩
  · have hjl : j < (hi - lo) * sz := by
      have := (List.getElem?_eq_some_iff.1 hj).1
      rw [List.length_take] at this
      omega
    rw [List.getElem?_take, if_pos hjl, List.getElem?_drop] at hj
    by_cases hcl : c = lo
    · have : hi - lo = 0 := by omega
      rw [this] at hjl
      omega
    · rw [if_neg hcl] at e
      cases p with
      | none => cases e
      | some b =>
        simp only [Option.map_some, Option.some.injEq] at e
        subst e
        rw [add_add]
        exact h.2.2 b rfl _ _ hj
theorem Gives.sub {F : HP} {sz : Nat} {p : Option Addr} {l c lo hi : Nat} {xs : List Value} (h : Gives F sz p l xs) (h1 : lo ≤ hi) (h2 : hi ≤ l) (hc : l ≤ c) :
    Gives F sz (if c = lo then p else p.map (·.add (lo * sz))) (hi - lo) ((xs.drop (lo * sz)).take ((hi - lo) * sz)) := fun _ _ hs => (h _ _ hs).sub h1 h2 hc
theorem Gives.sub8 {F : HP} {p : Option Addr} {l c lo hi : Nat} {bs : List Int} (h : Gives F 1 p l (by8 bs)) (h1 : lo ≤ hi) (h2 : hi ≤ l) (hc : l ≤ c) :
    Gives F 1 (if c = lo then p else p.map (·.add (lo * 1))) (hi - lo) (by8 ((bs.drop lo).take (hi - lo))) := by
  have := Gives.sub h h1 h2 hc
  rw [Nat.mul_one, Nat.mul_one] at this
  rw [Nat.mul_one, by8, List.map_take, List.map_drop]
  exact this
theorem Sat.own_cap {w₀ w : World} {t : TypeId} {sz : Nat} {p : Option Addr} {l c : Nat} {xs : List Value} (h : Sat w₀ (own t sz p l c xs) w) : l ≤ c := by
  have hr := h.own_row
  rcases hr.2 with ⟨e, hl⟩ | ⟨g, cap, cur, e, _, _, hc, _⟩
  · cases e; simp
  · cases e; exact hc

/-! ### stores into what is owned; whole values stored -/
theorem st_own {w₀ w : World} {F : HP} {t : TypeId} {sz g l c j : Nat} {xs : List Value} {v : Value} {K : World → Prop} (h : Sat w₀ (own t sz (some ⟨g, 0, none⟩) l c xs * F) w) (hj : j < xs.length)
    (hk : ∀ w', Sat w₀ (own t sz (some ⟨g, 0, none⟩) l c (xs.set j v) * F) w' → K w') : st ⟨g, j, none⟩ v w K := by
  have hxs := h.left.own_len
  obtain ⟨cur, h2, hle, hcm, hcs, htk⟩ : ∃ cur, Sat w₀ (blk g cur t * F) w ∧ l ≤ c ∧ c ≤ maxLen ∧ cur.size = c * sz ∧ cur.toList.take (l * sz) = xs := by
    obtain ⟨k, hk, h1, h2, ha, s1, s2, ⟨_, a⟩, b⟩ := h.heap
    rcases a with ⟨e, _, _⟩ | ⟨g', cur, e, hg, h3, h4, h5, h6⟩
    · cases e
    · cases e
      exact ⟨cur, ⟨h.os, h.tape, h.output, h.size, k, hk, h1, h2, ha, s1, s2, hg, b⟩, h3, h4, h5, h6⟩
  have hlc : l * sz ≤ c * sz := Nat.mul_le_mul_right _ hle
  refine st_ok h2 (by rw [hcs]; omega) fun w' h3 => hk w' (h3.imp fun k a => ⟨by simp [hxs], .inr ⟨g, _, rfl, a, hle, hcm, by simp [hcs], ?_⟩⟩)
  rw [Array.toList_setIfInBounds, List.take_set, htk]

theorem stA_ok {w₀ w : World} {F : HP} {P : Program} {b n : Nat} {cs vs : Array Value} {t : TypeId} {K : World → Prop} (h : Sat w₀ (blk b cs t * F) w) (hc : cs.size = n) (hv : vs.size = n) (h1 : ∀ u ∈ vs.toList, u.oneCell' = true)
    (hk : ∀ w', Sat w₀ (blk b vs t * F) w' → K w') : stA P ⟨b, 0, none⟩ n vs w K := by
  refine ⟨hv, _, run_storeCells_at P b 0 t vs.toList 0 cs w h.ob (by simp; omega) h1, hk _ ?_⟩
  have hb := h.ob
  have e : (cs.toList.take (0 + 0) ++ vs.toList ++ cs.toList.drop (0 + 0 + vs.toList.length)).toArray = vs := by
    apply Array.ext'
    simp [hv, hc]
  rw [e]
  refine h.step rfl rfl rfl (by simp [World.setRow]) ?_
  intro h1 a hw
  refine ⟨fun x => if x = b then some (.cells vs t (0, 0)) else none, by simp [Sp.ob], ?_, ?_, ?_⟩
  · intro x o e
    dsimp only at e
    split at e
    · rename_i e'; subst e'; cases e; exact setRow_heap w x cs vs t _ hb
    · cases e
  · intro x o e e1
    dsimp only at e
    split at e
    · rename_i e'; subst e'; have a' : h1 x = _ := a; rw [a'] at e1; cases e1
    · cases e
  · intro x o e1 hx
    have hne : x ≠ b := by rintro rfl; have a' : h1 x = _ := a; rw [a'] at e1; cases e1
    rw [setRow_other w b x _ hne]
    exact hx
/-! ### a part to the front -/
section
variable (A B C D E G H : HP)
theorem pull1 : A * (B * C) = B * (A * C) := by ac_rfl
theorem pull2 : A * (B * (C * D)) = C * (A * (B * D)) := by ac_rfl
theorem pull3 : A * (B * (C * (D * E))) = D * (A * (B * (C * E))) := by ac_rfl
theorem pull4 : A * (B * (C * (D * (E * G)))) = E * (A * (B * (C * (D * G)))) := by ac_rfl
theorem pull5 : A * (B * (C * (D * (E * (G * H))))) = G * (A * (B * (C * (D * (E * H))))) := by ac_rfl
theorem end1 : A * B = B * A := by ac_rfl
theorem end2 : A * (B * C) = C * (A * B) := by ac_rfl
theorem end3 : A * (B * (C * D)) = D * (A * (B * C)) := by ac_rfl
theorem end4 : A * (B * (C * (D * E))) = E * (A * (B * (C * D))) := by ac_rfl
theorem end5 : A * (B * (C * (D * (E * G)))) = G * (A * (B * (C * (D * E)))) := by ac_rfl
end
theorem Sat.p1 {w₀ w : World} {A B C : HP} (h : Sat w₀ (A * (B * C)) w) : Sat w₀ (B * (A * C)) w := h.perm (pull1 _ _ _)
theorem Sat.p2 {w₀ w : World} {A B C D : HP} (h : Sat w₀ (A * (B * (C * D))) w) : Sat w₀ (C * (A * (B * D))) w := h.perm (pull2 _ _ _ _)
theorem Sat.p3 {w₀ w : World} {A B C D E : HP} (h : Sat w₀ (A * (B * (C * (D * E)))) w) : Sat w₀ (D * (A * (B * (C * E)))) w := h.perm (pull3 _ _ _ _ _)
theorem Sat.p4 {w₀ w : World} {A B C D E G : HP} (h : Sat w₀ (A * (B * (C * (D * (E * G))))) w) : Sat w₀ (E * (A * (B * (C * (D * G))))) w := h.perm (pull4 _ _ _ _ _ _)
theorem Sat.e1 {w₀ w : World} {A B : HP} (h : Sat w₀ (A * B) w) : Sat w₀ (B * A) w := h.perm (sep_comm _ _)
theorem Sat.e2 {w₀ w : World} {A B C : HP} (h : Sat w₀ (A * (B * C)) w) : Sat w₀ (C * (A * B)) w := h.perm (end2 _ _ _)
theorem Sat.e3 {w₀ w : World} {A B C D : HP} (h : Sat w₀ (A * (B * (C * D))) w) : Sat w₀ (D * (A * (B * C))) w := h.perm (end3 _ _ _ _)
theorem Sat.e4 {w₀ w : World} {A B C D E : HP} (h : Sat w₀ (A * (B * (C * (D * E)))) w) : Sat w₀ (E * (A * (B * (C * D)))) w := h.perm (end4 _ _ _ _ _)
theorem Sat.below' {w₁ w : World} (h : Sat w₁ (old w₁) w) : Below w₁.heap.size w₁ w := (h.with_emp.e1).below

/-- A list out of so many things. -/
theorem collect {α : Type} {P : Nat → α → Prop} : ∀ (n : Nat), (∀ i, i < n → ∃ x, P i x) → ∃ xs : List α, xs.length = n ∧ ∀ i x, xs[i]? = some x → P i x
  | 0, _ => ⟨[], rfl, fun i x h => by simp at h⟩
  | n + 1, h => by
    obtain ⟨xs, hl, hx⟩ := collect n fun i hi => h i (by omega)
    obtain ⟨x, hn⟩ := h n (by omega)
    refine ⟨xs ++ [x], by simp [hl], fun i y hy => ?_⟩
    rcases Nat.lt_or_ge i xs.length with hlt | hge
    · rw [List.getElem?_append_left hlt] at hy; exact hx i y hy
    · rw [List.getElem?_append_right hge] at hy
      have h0 : i - xs.length = 0 := by
        have := (List.getElem?_eq_some_iff.1 hy).1
        simp at this
        omega
      rw [h0] at hy
      simp at hy
      subst hy
      have : i = n := by omega
      subst this
      exact hn
end Go.Sp
