/- What an arena is: the model of layer 2, for things of whatever kind; plain Lean. No conditions. -/
import Derived.Test.YtgchemgnmijpdaaSp9
set_option linter.unusedVariables false
set_option linter.unusedSimpArgs false
namespace Go.Proofs.Ytgchemgnmijpdaa
open Go.Sp Go.RowKit

structure Spot (α : Type) where
  x : α
  g : Int
  st : Int
structure AS (α : Type) where
  most : Int
  first : Int
  sp : List (Spot α)
  fr : List Nat
  cnt : Nat
variable {α : Type}
structure AOk (s : AS α) : Prop where
  most0 : 1 ≤ s.most
  most1 : s.most ≤ 65536
  first0 : 1 ≤ s.first
  first1 : s.first ≤ 4294967295
  len : (s.sp.length : Int) ≤ s.most
  g : ∀ y ∈ s.sp, 1 ≤ y.g ∧ y.g ≤ 4294967295
  fr : ∀ i ∈ s.fr, ∃ y, s.sp[i]? = some y ∧ y.st = 0
  nd : s.fr.Nodup
  cnt : s.cnt = s.sp.countP (·.st == 1)
  bound : s.cnt + s.fr.length ≤ s.sp.length

def hd (i : Nat) (g : Int) : Int := g * 4294967296 + i + 1
def put (s : AS α) (x : α) : (AS α) × Int × Int :=
  match s.fr.getLast? with
  | some i => match s.sp[i]? with
    | some y => (⟨s.most, s.first, s.sp.set i ⟨x, y.g, 1⟩, s.fr.dropLast, s.cnt + 1⟩, hd i y.g, 0)
    | none => (s, 0, 3)
  | none => if (s.sp.length : Int) = s.most then (s, 0, 3) else (⟨s.most, s.first, s.sp ++ [⟨x, s.first, 1⟩], s.fr, s.cnt + 1⟩, hd s.sp.length s.first, 0)
theorem put_cases {s : (AS α)} (hs : AOk s) (x : α) :
    (∃ fr i y, s.fr = fr ++ [i] ∧ s.sp[i]? = some y ∧ y.st = 0 ∧ put s x = (⟨s.most, s.first, s.sp.set i ⟨x, y.g, 1⟩, fr, s.cnt + 1⟩, hd i y.g, 0)) ∨
    (s.fr = [] ∧ (s.sp.length : Int) = s.most ∧ put s x = (s, 0, 3)) ∨
    (s.fr = [] ∧ (s.sp.length : Int) < s.most ∧ put s x = (⟨s.most, s.first, s.sp ++ [⟨x, s.first, 1⟩], [], s.cnt + 1⟩, hd s.sp.length s.first, 0)) := by
  have hl := hs.len
  rcases List.eq_nil_or_concat s.fr with hf | ⟨fr, i, hf⟩
  · right
    by_cases he : (s.sp.length : Int) = s.most
    · exact .inl ⟨hf, he, by simp [put, hf, he]⟩
    · exact .inr ⟨hf, by omega, by simp [put, hf, he]⟩
  · left
    rw [List.concat_eq_append] at hf
    obtain ⟨y, hy, h0⟩ := hs.fr i (by simp [hf])
    exact ⟨fr, i, y, hf, hy, h0, by simp [put, hf, hy]⟩
def find (s : (AS α)) (h : Int) : Option Nat :=
  if h % 4294967296 = 0 then none else
  match s.sp[(h % 4294967296 - 1).toNat]? with
  | some y => if y.st = 1 ∧ y.g = h / 4294967296 then some (h % 4294967296 - 1).toNat else none
  | none => none
theorem find_iff {s : (AS α)} (hs : AOk s) {h : Int} {i : Nat} : find s h = some i ↔ ∃ y, s.sp[i]? = some y ∧ y.st = 1 ∧ h = hd i y.g := by
  have hl := hs.len
  have hm := hs.most1
  unfold find hd
  constructor
  · intro e
    split at e
    · cases e
    split at e
    · rename_i y hy
      split at e
      · rename_i hc
        cases e
        exact ⟨y, hy, hc.1, by omega⟩
      · cases e
    · cases e
  · rintro ⟨y, hy, h1, rfl⟩
    have hlt := (List.getElem?_eq_some_iff.1 hy).1
    have e1 : (y.g * 4294967296 + i + 1) % 4294967296 = i + 1 := by omega
    have e2 : (y.g * 4294967296 + i + 1) / 4294967296 = y.g := by omega
    have e3 : ((i : Int) + 1 - 1).toNat = i := by omega
    rw [e1, e2, e3, if_neg (by omega), hy]
    simp [h1]
def dropS (z : α) (s : AS α) (i : Nat) : AS α :=
  match s.sp[i]? with
  | some y => if y.g < 4294967295 then ⟨s.most, s.first, s.sp.set i ⟨z, y.g + 1, 0⟩, s.fr ++ [i], s.cnt - 1⟩ else ⟨s.most, s.first, s.sp.set i ⟨z, y.g, 2⟩, s.fr, s.cnt - 1⟩
  | none => s
theorem count_set {β : Type} {P : β → Bool} {ys : List β} {i : Nat} {y y' : β} (h : ys[i]? = some y) : (ys.set i y').countP P + (if P y then 1 else 0) = ys.countP P + (if P y' then 1 else 0) := by
  induction ys generalizing i with
  | nil => simp at h
  | cons z ys ih =>
    cases i with
    | zero =>
      simp only [List.getElem?_cons_zero, Option.some.injEq] at h
      subst h
      simp only [List.set_cons_zero, List.countP_cons]
      omega
    | succ i =>
      have := ih (by simpa using h)
      simp only [List.set_cons_succ, List.countP_cons]
      omega
theorem count_pos {β : Type} {P : β → Bool} {ys : List β} {i : Nat} {y : β} (h : ys[i]? = some y) (hp : P y = true) : 0 < ys.countP P := List.countP_pos_iff.2 ⟨y, List.mem_of_getElem? h, hp⟩
theorem set_get {β : Type} {ys : List β} {i j : Nat} {y z : β} (h : (ys.set i z)[j]? = some y) : (j = i ∧ y = z) ∨ (j ≠ i ∧ ys[j]? = some y) := by
  rw [List.getElem?_set] at h
  by_cases e : i = j
  · rw [if_pos e] at h
    split at h
    · cases h; exact .inl ⟨e.symm, rfl⟩
    · cases h
  · rw [if_neg e] at h
    exact .inr ⟨fun h => e h.symm, h⟩
theorem AOk.start {most first : Int} (h0 : 1 ≤ most) (h1 : most ≤ 65536) (h2 : 1 ≤ first) (h3 : first ≤ 4294967295) : AOk (⟨most, first, [], [], 0⟩ : AS α) :=
  ⟨h0, h1, h2, h3, by simp; omega, by simp, by simp, by simp, by simp, by simp⟩
theorem AOk.put {s : (AS α)} (hs : AOk s) (x : α) : AOk (put s x).1 := by
  rcases put_cases hs x with ⟨fr, i, y, hfr, hy, hst, hput⟩ | ⟨hfr, hfull, hput⟩ | ⟨hfr, hfull, hput⟩
  · rw [hput]
    have hlt := (List.getElem?_eq_some_iff.1 hy).1
    have hnd := hs.nd
    rw [hfr] at hnd
    have hni : i ∉ fr := fun hm => (List.nodup_append.1 hnd).2.2 i hm i (.head _) rfl
    have hc := count_set (P := fun z : (Spot α) => z.st == 1) (y' := ⟨x, y.g, 1⟩) hy
    have hb := hs.bound
    have hk := hs.cnt
    simp only [hst] at hc
    refine ⟨hs.most0, hs.most1, hs.first0, hs.first1, by simpa using hs.len, fun z hz => ?_, fun j hj => ?_, (List.nodup_append.1 hnd).1, ?_, ?_⟩
    · rcases List.mem_or_eq_of_mem_set hz with hz | rfl
      · exact hs.g z hz
      · exact hs.g y (List.mem_of_getElem? hy)
    · obtain ⟨z, hz, h0⟩ := hs.fr j (by simp [hfr, hj])
      have : i ≠ j := fun e => hni (e ▸ hj)
      exact ⟨z, by simp [List.getElem?_set, this, hz], h0⟩
    · simp at hc
      show s.cnt + 1 = (s.sp.set i ⟨x, y.g, 1⟩).countP (fun z : (Spot α) => z.st == 1)
      omega
    · rw [hfr] at hb
      simp at hb ⊢
      omega
  · rw [hput]; exact hs
  · rw [hput]
    have hb := hs.bound
    have hk := hs.cnt
    refine ⟨hs.most0, hs.most1, hs.first0, hs.first1, by simp; omega, fun z hz => ?_, by simp, by simp, ?_, ?_⟩
    · rcases List.mem_append.1 hz with hz | hz
      · exact hs.g z hz
      · rw [List.mem_singleton] at hz
        subst hz
        exact ⟨hs.first0, hs.first1⟩
    · show s.cnt + 1 = _
      rw [List.countP_append, ← hk]
      rfl
    · simp at hb ⊢
      omega
theorem drop_cases {z : α} {s : (AS α)} {i : Nat} {y : (Spot α)} (hy : s.sp[i]? = some y) :
    (y.g < 4294967295 ∧ dropS z s i = ⟨s.most, s.first, s.sp.set i ⟨z, y.g + 1, 0⟩, s.fr ++ [i], s.cnt - 1⟩) ∨ (¬ y.g < 4294967295 ∧ dropS z s i = ⟨s.most, s.first, s.sp.set i ⟨z, y.g, 2⟩, s.fr, s.cnt - 1⟩) := by
  by_cases h : y.g < 4294967295
  · exact .inl ⟨h, by simp [dropS, hy, h]⟩
  · exact .inr ⟨h, by simp [dropS, hy, h]⟩
theorem AOk.drop {z : α} {s : (AS α)} (hs : AOk s) {i : Nat} {y : (Spot α)} (hy : s.sp[i]? = some y) (h1 : y.st = 1) : AOk (dropS z s i) := by
  have hlt := (List.getElem?_eq_some_iff.1 hy).1
  have hni : i ∉ s.fr := fun hm => by
    obtain ⟨zz, hz, h0⟩ := hs.fr i hm
    rw [hy] at hz
    cases hz
    omega
  have hb := hs.bound
  have hk := hs.cnt
  have hp := count_pos (P := fun zz : Spot α => zz.st == 1) hy (by simp [h1])
  have hgy := hs.g y (List.mem_of_getElem? hy)
  rcases drop_cases (z := z) hy with ⟨hg, hd⟩ | ⟨hg, hd⟩
  · rw [hd]
    have hc := count_set (P := fun zz : Spot α => zz.st == 1) (y' := ⟨z, y.g + 1, 0⟩) hy
    simp [h1] at hc
    refine ⟨hs.most0, hs.most1, hs.first0, hs.first1, by simpa using hs.len, fun zz hz => ?_, fun j hj => ?_, ?_, ?_, ?_⟩
    · rcases List.mem_or_eq_of_mem_set hz with hz | rfl
      · exact hs.g zz hz
      · show 1 ≤ y.g + 1 ∧ y.g + 1 ≤ 4294967295
        omega
    · rcases List.mem_append.1 hj with hj | hj
      · obtain ⟨zz, hz, h0⟩ := hs.fr j hj
        have : i ≠ j := fun e => hni (e ▸ hj)
        exact ⟨zz, by simp [List.getElem?_set, this, hz], h0⟩
      · rw [List.mem_singleton] at hj
        subst hj
        exact ⟨⟨z, y.g + 1, 0⟩, by simp [hlt], rfl⟩
    · refine List.nodup_append.2 ⟨hs.nd, by simp, fun a ha b hb e => ?_⟩
      rw [List.mem_singleton] at hb
      rw [e, hb] at ha
      exact hni ha
    · show s.cnt - 1 = (s.sp.set i ⟨z, y.g + 1, 0⟩).countP (fun zz : Spot α => zz.st == 1)
      omega
    · simp at hb ⊢
      omega
  · rw [hd]
    have hc := count_set (P := fun zz : Spot α => zz.st == 1) (y' := ⟨z, y.g, 2⟩) hy
    simp [h1] at hc
    refine ⟨hs.most0, hs.most1, hs.first0, hs.first1, by simpa using hs.len, fun zz hz => ?_, fun j hj => ?_, hs.nd, ?_, ?_⟩
    · rcases List.mem_or_eq_of_mem_set hz with hz | rfl
      · exact hs.g zz hz
      · exact hgy
    · obtain ⟨zz, hz, h0⟩ := hs.fr j hj
      have : i ≠ j := fun e => hni (e ▸ hj)
      exact ⟨zz, by simp [List.getElem?_set, this, hz], h0⟩
    · show s.cnt - 1 = (s.sp.set i ⟨z, y.g, 2⟩).countP (fun zz : Spot α => zz.st == 1)
      omega
    · simp at hb ⊢
      omega

def dropR (z : α) (s : AS α) (h : Int) : AS α × α × Int :=
  match (find s h).bind fun i => (s.sp[i]?).map fun y => (dropS z s i, y.x, (0 : Int)) with
  | some r => r
  | none => (s, z, 2)
theorem dropR_none {z : α} {s : AS α} {h : Int} (hf : find s h = none) : dropR z s h = (s, z, 2) := by simp [dropR, hf]
theorem dropR_some {z : α} {s : AS α} {h : Int} {i : Nat} {y : Spot α} (hf : find s h = some i) (hy : s.sp[i]? = some y) : dropR z s h = (dropS z s i, y.x, 0) := by simp [dropR, hf, hy]
theorem AOk.dropR {z : α} {s : AS α} (hs : AOk s) (h : Int) : AOk (dropR z s h).1 := by
  cases hf : find s h with
  | none => rw [dropR_none hf]; exact hs
  | some i =>
    obtain ⟨y, hy, h1, _⟩ := (find_iff hs).1 hf
    rw [dropR_some hf hy]
    exact hs.drop hy h1
theorem hd_range {i : Nat} {g : Int} (hi : i < 4294967295) (h0 : 0 ≤ g) (h1 : g ≤ 4294967295) : 0 ≤ hd i g ∧ hd i g ≤ 18446744073709551615 := by unfold hd; omega

theorem hd_inj {i j : Nat} {g g' : Int} (hi : i < 4294967295) (hj : j < 4294967295) (h : hd i g = hd j g') : i = j ∧ g = g' := by
  unfold hd at h
  omega
/-- Two arenas that are alike but for what is in them. -/
def mapA {β : Type} (f : α → β) (s : AS α) : AS β := ⟨s.most, s.first, s.sp.map fun y => ⟨f y.x, y.g, y.st⟩, s.fr, s.cnt⟩
theorem put_zero {s : (AS α)} {x : α} (hs : AOk s) : ((put s x).2.1 = 0 ↔ (put s x).2.2 ≠ 0) := by
  rcases put_cases hs x with ⟨fr, j, z, hfr, hz, hst, hput⟩ | ⟨hfr, hfull, hput⟩ | ⟨hfr, hfull, hput⟩
  · rw [hput]
    have hg := hs.g z (List.mem_of_getElem? hz)
    unfold hd
    simp
    omega
  · rw [hput]; simp
  · rw [hput]
    have h0 := hs.first0
    unfold hd
    simp
    omega
theorem find_get {s : (AS α)} (hs : AOk s) (h : Int) : (find s h = none ∧ (find s h).bind (s.sp[·]?) = none) ∨ ∃ i y, find s h = some i ∧ s.sp[i]? = some y ∧ y.st = 1 ∧ (find s h).bind (s.sp[·]?) = some y := by
  cases hf : find s h with
  | none => exact .inl ⟨rfl, rfl⟩
  | some i =>
    obtain ⟨y, hy, h1, _⟩ := (find_iff hs).1 hf
    exact .inr ⟨i, y, rfl, hy, h1, by rw [Option.bind_some, hy]⟩

theorem put_most {s : (AS α)} {x : α} (hs : AOk s) : (put s x).1.most = s.most := by
  rcases put_cases hs x with ⟨fr, j, z, hfr, hz, hst, hput⟩ | ⟨hfr, hfull, hput⟩ | ⟨hfr, hfull, hput⟩ <;> rw [hput]
theorem dropS_most {z : α} {s : (AS α)} {i : Nat} {y : (Spot α)} (hy : s.sp[i]? = some y) : (dropS z s i).most = s.most := by
  rcases drop_cases (z := z) hy with ⟨_, h⟩ | ⟨_, h⟩ <;> rw [h]
def allFrom : Nat → List (Spot α) → List Int
  | _, [] => []
  | i, y :: ys => if y.st = 1 then hd i y.g :: allFrom (i + 1) ys else allFrom (i + 1) ys
theorem allFrom_append (ys : List (Spot α)) (y : (Spot α)) : ∀ i, allFrom i (ys ++ [y]) = allFrom i ys ++ (if y.st = 1 then [hd (i + ys.length) y.g] else []) := by
  induction ys with
  | nil => intro i; simp [allFrom]
  | cons z ys ih =>
    intro i
    rw [List.cons_append, allFrom, allFrom, ih]
    have e : i + 1 + ys.length = i + (z :: ys).length := by simp; omega
    rw [e]
    split <;> rfl
theorem allFrom_length (ys : List (Spot α)) : ∀ i, (allFrom i ys).length = ys.countP (·.st == 1) := by
  induction ys with
  | nil => intro i; rfl
  | cons z ys ih =>
    intro i
    rw [allFrom, List.countP_cons]
    split
    · rename_i h; simp [ih, h]
    · rename_i h; simp [ih, h]
def liveFrom : Nat → List (Spot α) → List (Nat × (Spot α))
  | _, [] => []
  | i, y :: ys => if y.st = 1 then (i, y) :: liveFrom (i + 1) ys else liveFrom (i + 1) ys
theorem liveFrom_append (ys : List (Spot α)) (y : (Spot α)) : ∀ i, liveFrom i (ys ++ [y]) = liveFrom i ys ++ (if y.st = 1 then [(i + ys.length, y)] else []) := by
  induction ys with
  | nil => intro i; simp [liveFrom]
  | cons z ys ih =>
    intro i
    rw [List.cons_append, liveFrom, liveFrom, ih]
    have e : i + 1 + ys.length = i + (z :: ys).length := by simp; omega
    rw [e]
    split <;> rfl
theorem liveFrom_more (ys zs : List (Spot α)) : ∀ i, liveFrom i (ys ++ zs) = liveFrom i ys ++ liveFrom (i + ys.length) zs := by
  induction ys with
  | nil => intro i; simp [liveFrom]
  | cons y ys ih =>
    intro i
    rw [List.cons_append, liveFrom, liveFrom, ih]
    have e : i + 1 + ys.length = i + (y :: ys).length := by simp; omega
    rw [e]
    split <;> rfl
theorem liveFrom_get (ys : List (Spot α)) : ∀ (i j : Nat) (p : Nat × (Spot α)), (liveFrom i ys)[j]? = some p → i ≤ p.1 ∧ ys[p.1 - i]? = some p.2 ∧ p.2.st = 1 := by
  induction ys with
  | nil => intro i j p h; simp [liveFrom] at h
  | cons y ys ih =>
    intro i j p h
    rw [liveFrom] at h
    have key : ∀ j : Nat, (liveFrom (i + 1) ys)[j]? = some p → i ≤ p.1 ∧ (y :: ys)[p.1 - i]? = some p.2 ∧ p.2.st = 1 := by
      intro j h
      obtain ⟨h1, h2, h3⟩ := ih (i + 1) j p h
      refine ⟨by omega, ?_, h3⟩
      rw [show p.1 - i = p.1 - (i + 1) + 1 by omega, List.getElem?_cons_succ]
      exact h2
    split at h
    · rename_i hy
      cases j with
      | zero => simp at h; subst h; exact ⟨Nat.le_refl _, by simp, hy⟩
      | succ j => exact key j (by simpa using h)
    · exact key j h
theorem liveFrom_rise (ys : List (Spot α)) : ∀ (i j : Nat) (p q : Nat × (Spot α)), (liveFrom i ys)[j]? = some p → (liveFrom i ys)[j + 1]? = some q → p.1 < q.1 := by
  induction ys with
  | nil => intro i j p q h; simp [liveFrom] at h
  | cons y ys ih =>
    intro i j p q h k
    rw [liveFrom] at h k
    split at h
    · rename_i hy
      rw [if_pos hy] at k
      cases j with
      | zero =>
        simp at h
        subst h
        have := (liveFrom_get ys (i + 1) 0 q (by simpa using k)).1
        show i < q.1
        omega
      | succ j => exact ih (i + 1) j p q (by simpa using h) (by simpa using k)
    · rename_i hy
      rw [if_neg hy] at k
      exact ih (i + 1) j p q h k
theorem allFrom_live (ys : List (Spot α)) : ∀ i, allFrom i ys = (liveFrom i ys).map fun p => hd p.1 p.2.g := by
  induction ys with
  | nil => intro i; rfl
  | cons y ys ih =>
    intro i
    rw [allFrom, liveFrom, ih]
    split <;> rfl
theorem liveFrom_length (ys : List (Spot α)) (i : Nat) : (liveFrom i ys).length = ys.countP (·.st == 1) := by
  rw [← allFrom_length ys i, allFrom_live, List.length_map]
end Go.Proofs.Ytgchemgnmijpdaa
