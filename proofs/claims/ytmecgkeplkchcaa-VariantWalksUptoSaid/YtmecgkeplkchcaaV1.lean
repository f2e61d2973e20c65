/- What a value is, in memory; which ones may be. No conditions. -/
import Derived.Test.YtmecgkeplkchcaaG0
import Derived.Test.YtmecgkeplkchcaaOp
import Derived.Test.YtmecgkeplkchcaaSpB
set_option linter.unusedVariables false
set_option linter.unusedSimpArgs false
set_option linter.unusedSectionVars false
set_option maxRecDepth 100000
namespace Go.Proofs.Ytmecgkeplkchcaa
open Go.Sp Go.RowKit

/-- A value: what it is, and where its parts lie. -/
inductive VT where
  | mk (kd n : Int) (s : ByteArray) (p : Option Addr) (c : Nat) (l : List VT)
namespace VT
def kd : VT → Int | .mk k _ _ _ _ _ => k
def n : VT → Int | .mk _ n _ _ _ _ => n
def s : VT → ByteArray | .mk _ _ s _ _ _ => s
def p : VT → Option Addr | .mk _ _ _ p _ _ => p
def c : VT → Nat | .mk _ _ _ _ c _ => c
def l : VT → List VT | .mk _ _ _ _ _ l => l
theorem sz {x y : VT} (h : y ∈ x.l) : SizeOf.sizeOf y < SizeOf.sizeOf x := by
  cases x with
  | mk k n s p c l =>
    have h : y ∈ l := h
    have := List.sizeOf_lt_of_mem h
    simp
    omega
theorem ind {P : VT → Prop} (h : ∀ x, (∀ y ∈ x.l, P y) → P x) (x : VT) : P x := by
  refine h x fun y hy => ?_
  have := sz hy
  exact ind h y
termination_by SizeOf.sizeOf x
end VT
def vc (x : VT) : List Value := [.int .i64 x.kd, .int .i64 x.n, .string x.s, .slice x.p x.l.length x.c]
def va (x : VT) : Array Value := (vc x).toArray
theorem vc_len (x : VT) : (vc x).length = 4 := rfl
theorem vc_one (x : VT) : ∀ u ∈ vc x, u.oneCell' = true := by simp [vc, Value.oneCell']
theorem va_one (x : VT) : ∀ u ∈ (va x).toList, u.oneCell' = true := by simpa [va] using vc_one x
/-- Its parts lie where it says. -/
inductive VOk (w : World) : VT → Prop
  | mk {x : VT} : Rd w 4 x.p x.l.length (x.l.flatMap vc) → (∀ y ∈ x.l, VOk w y) → VOk w x
theorem VOk.rd {w : World} {x : VT} (h : VOk w x) : Rd w 4 x.p x.l.length (x.l.flatMap vc) := by cases h; assumption
theorem VOk.part {w : World} {x y : VT} (h : VOk w x) (hy : y ∈ x.l) : VOk w y := by cases h with | mk _ h => exact h y hy
theorem VOk.same {w w' : World} {x : VT} (h : VOk w x) (k : Same w w') : VOk w' x := by
  induction h with
  | mk hr _ ih => exact .mk (hr.same k) ih
theorem VOk.old {w W : World} {w₀ : World} {x : VT} (h : VOk W x) (hs : Sat w₀ (old W) w) : VOk w x := by
  induction h with
  | mk hr _ ih => exact .mk (hr.old hs) ih
/-- Wherever this holds, the value is there. -/
def VGives (F : HP) (x : VT) : Prop := ∀ w₀ w, Sat w₀ F w → VOk w x
theorem VGives.right {A B : HP} {x : VT} (h : VGives B x) : VGives (A * B) x := fun _ _ hs => h _ _ hs.right
theorem VGives.left {A B : HP} {x : VT} (h : VGives A x) : VGives (A * B) x := fun _ _ hs => h _ _ hs.left
theorem VGives.old {w : World} {x : VT} (h : VOk w x) : VGives (old w) x := fun _ _ hs => h.old hs
theorem VGives.part {F : HP} {x y : VT} (h : VGives F x) (hy : y ∈ x.l) : VGives F y := fun _ _ hs => (h _ _ hs).part hy
theorem VGives.mk {F : HP} {x : VT} (h : Gives F 4 x.p x.l.length (x.l.flatMap vc)) (hp : ∀ y ∈ x.l, VGives F y) : VGives F x := fun w₀ w hs => .mk (h w₀ w hs) fun y hy => hp y hy w₀ w hs
theorem rd_vc {w : World} {p : Option Addr} {l : Nat} {xs : List VT} {i : Nat} {x : VT} {a : Addr} {K : Array Value → Prop} (h : Rd w 4 p l (xs.flatMap vc)) (hp : p = some a) (hx : xs[i]? = some x) (hk : K (va x)) : ldA (a.add (i * 4)) 4 w K := by
  refine ldA_ok rfl (fun j hj => ?_) hk
  have e : (vc x)[j]? = some ((vc x)[j]'(by rw [vc_len]; exact hj)) := by simp [vc_len, hj]
  rw [add_add, h.2.2 a hp _ _ ((flatGet vc_len hx hj).trans e), va, List.getElem?_toArray, e]
/-- The numbers are numbers. -/
inductive VIn : VT → Prop
  | mk {x : VT} : (-9223372036854775808 ≤ x.kd ∧ x.kd ≤ 9223372036854775807) → (-9223372036854775808 ≤ x.n ∧ x.n ≤ 9223372036854775807) → (x.s.size ≤ 9223372036854775807 ∧ x.l.length ≤ 9223372036854775807) → (∀ y ∈ x.l, VIn y) → VIn x
theorem VIn.kd {x : VT} (h : VIn x) : -9223372036854775808 ≤ x.kd ∧ x.kd ≤ 9223372036854775807 := by cases h; assumption
theorem VIn.n {x : VT} (h : VIn x) : -9223372036854775808 ≤ x.n ∧ x.n ≤ 9223372036854775807 := by cases h; assumption
theorem VIn.lens {x : VT} (h : VIn x) : x.s.size ≤ 9223372036854775807 ∧ x.l.length ≤ 9223372036854775807 := by cases h; assumption
theorem VIn.part {x y : VT} (h : VIn x) (hy : y ∈ x.l) : VIn y := by cases h with | mk _ _ _ h => exact h y hy

/-! ### of the form, by itself -/
def noS (s : ByteArray) : Bool := s.toList == (⟨#[]⟩ : ByteArray).toList
def formB (x : VT) : Bool :=
  if x.kd = 0 then decide (x.n = 0) && noS x.s && decide (x.l.length = 0)
  else if x.kd = 1 then decide (x.n = 0 ∨ x.n = 1) && noS x.s && decide (x.l.length = 0)
  else if x.kd = 2 then decide (-2147483648 ≤ x.n ∧ x.n ≤ 2147483647) && noS x.s && decide (x.l.length = 0)
  else if x.kd = 3 ∨ x.kd = 5 then noS x.s && decide (x.l.length = 0)
  else if x.kd = 4 then decide (x.n = 0) && decide (x.l.length = 0)
  else if x.kd = 6 then decide (x.n = 0) && noS x.s
  else false
section
variable {w₀ w : World} {F : HP} {x : VT}
theorem ldV4 {k : Nat} {t : TypeId} {K : Array Value → Prop} (h : Sat w₀ (blk k (va x) t * F) w) (hk : K (va x)) : ldA (⟨k, 0, none⟩ : Addr) 4 w K := ldA_blk0 h rfl hk
theorem ref_form_ok (h : Sat w₀ F w) : call Try.prog fn_tenonref06_form #[.agg (va x)] w fun v w' => v = .bool (formB x) ∧ Sat w₀ F w' := by
  apply tenonref06_form_call
  unfold tenonref06_form
  refine new_ok h fun k1 w1 h1 => ?_
  have h1 : Sat w₀ (blk k1 (va x) 24 * F) w1 := h1
  have c0 := cell_blk h1 (i := 0) (v := .int .i64 x.kd) rfl
  have c1 := cell_blk h1 (i := 1) (v := .int .i64 x.n) rfl
  have c2 := cell_blk h1 (i := 2) (v := .string x.s) rfl
  have c3 := cell_blk h1 (i := 3) (v := .slice x.p x.l.length x.c) rfl
  have fin : ∀ {b : Bool}, b = formB x → Value.bool b = .bool (formB x) ∧ Sat w₀ F w1 := fun e => ⟨by rw [e], h1.right⟩
  have lz : ((x.l.length : Int) == 0) = decide (x.l.length = 0) := by
    rw [Bool.eq_iff_iff]; simp
  refine ldI_ok c0 <| br_split (fun k0 => ?_) (fun k0 => ?_)
  · have k0 : x.kd = 0 := by simpa using k0
    refine ldI_ok c1 <| br_split (fun n0 => ldT_ok c2 <| br_split (fun s0 => ldS_ok c3 <| fin ?_) (fun s0 => fin ?_)) (fun n0 => fin ?_)
    · rw [formB, if_pos k0, lz]; simp at n0; simp [n0, show noS x.s = true from s0]
    · rw [formB, if_pos k0]; simp [show noS x.s = false from s0]
    · rw [formB, if_pos k0]; simp at n0; simp [n0]
  have k0 : x.kd ≠ 0 := by simpa using k0
  refine br_split (fun k => ?_) (fun k => ?_)
  · have k : x.kd = 1 := by simpa using k
    have e : formB x = (decide (x.n = 0 ∨ x.n = 1) && noS x.s && decide (x.l.length = 0)) := by rw [formB, if_neg k0, if_pos k]
    refine ldI_ok c1 <| br_split (fun n0 => ldT_ok c2 <| br_split (fun s0 => ldS_ok c3 <| fin ?_) (fun s0 => fin ?_)) (fun n0 => ldI_ok c1 <| br_split (fun n1 => ldT_ok c2 <| br_split (fun s0 => ldS_ok c3 <| fin ?_) (fun s0 => fin ?_)) (fun n1 => fin ?_))
    · rw [e, lz]; simp at n0; simp [n0, show noS x.s = true from s0]
    · rw [e]; simp [show noS x.s = false from s0]
    · rw [e, lz]; simp at n1; simp [n1, show noS x.s = true from s0]
    · rw [e]; simp [show noS x.s = false from s0]
    · rw [e]; simp at n0 n1; simp [n0, n1]
  have k1 : x.kd ≠ 1 := by simpa using k
  refine br_split (fun k => ?_) (fun k => ?_)
  · have k : x.kd = 2 := by simpa using k
    have e : formB x = (decide (-2147483648 ≤ x.n ∧ x.n ≤ 2147483647) && noS x.s && decide (x.l.length = 0)) := by rw [formB, if_neg k0, if_neg k1, if_pos k]
    refine ldI_ok c1 <| br_dec (fun n0 => ldI_ok c1 <| br_dec (fun n1 => ldT_ok c2 <| br_split (fun s0 => ldS_ok c3 <| fin ?_) (fun s0 => fin ?_)) (fun n1 => fin ?_)) (fun n0 => fin ?_)
    · have hn : -2147483648 ≤ x.n ∧ x.n ≤ 2147483647 := ⟨by omega, n1⟩
      rw [e, lz]; simp [hn, show noS x.s = true from s0]
    · rw [e]; simp [show noS x.s = false from s0]
    · rw [e]; simp [n1]
    · rw [e]; simp; omega
  have k2 : x.kd ≠ 2 := by simpa using k
  refine ⟨fun b w => (b = true ↔ x.kd = 3 ∨ x.kd = 5) ∧ w = w1, ?_, ?_⟩
  · refine br_split (fun h => ⟨?_, rfl⟩) (fun h => ⟨?_, rfl⟩)
    · simp at h ⊢; omega
    · simp at h ⊢; omega
  rintro u b w2 ⟨hb, rfl⟩
  refine br_split (fun k => ?_) (fun k => ?_)
  · have k := hb.1 k
    have e : formB x = (noS x.s && decide (x.l.length = 0)) := by rw [formB, if_neg k0, if_neg k1, if_neg k2, if_pos k]
    refine ldT_ok c2 <| br_split (fun s0 => ldS_ok c3 <| fin ?_) (fun s0 => fin ?_)
    · rw [e, lz]; simp [show noS x.s = true from s0]
    · rw [e]; simp [show noS x.s = false from s0]
  have k3 : ¬ (x.kd = 3 ∨ x.kd = 5) := fun h => by rw [hb.2 h] at k; cases k
  refine br_split (fun k => ?_) (fun k => ?_)
  · have k : x.kd = 4 := by simpa using k
    have e : formB x = (decide (x.n = 0) && decide (x.l.length = 0)) := by rw [formB, if_neg k0, if_neg k1, if_neg k2, if_neg k3, if_pos k]
    refine ldI_ok c1 <| br_split (fun n0 => ldS_ok c3 <| fin ?_) (fun n0 => fin ?_)
    · rw [e, lz]; simp at n0; simp [n0]
    · rw [e]; simp at n0; simp [n0]
  have k4 : x.kd ≠ 4 := by simpa using k
  refine br_split (fun k => ?_) (fun k => ?_)
  · have k : x.kd = 6 := by simpa using k
    have e : formB x = (decide (x.n = 0) && noS x.s) := by rw [formB, if_neg k0, if_neg k1, if_neg k2, if_neg k3, if_neg k4, if_pos k]
    refine ldI_ok c1 <| br_split (fun n0 => ldT_ok c2 <| fin ?_) (fun n0 => fin ?_)
    · rw [e]; simp at n0; simp [n0, noS]
    · rw [e]; simp at n0; simp [n0]
  have k6 : x.kd ≠ 6 := by simpa using k
  exact fin (by rw [formB, if_neg k0, if_neg k1, if_neg k2, if_neg k3, if_neg k4, if_neg k6])
end
end Go.Proofs.Ytmecgkeplkchcaa
