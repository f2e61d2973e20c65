/- Parts of tables. No conditions. -/
import Derived.Test.YtjjnbcdcppnllaaSpB
set_option linter.unusedVariables false
set_option linter.unusedSimpArgs false
set_option maxRecDepth 100000
namespace Go.Sp
open Go.RowKit
section
variable {α : Type} {f : α → List Value} {w₀ w : World} {t : TypeId} {sz l c j : Nat} {p : Option Addr} {ys : List α}
theorem tab_front (hf : ∀ y, (f y).length = sz) (hs : 0 < sz) (h : Sat w₀ (tab t sz f p l c ys) w) (hj : j ≤ l) : Rd w sz p j ((ys.take j).flatMap f) := by
  have hl := tab_len hf hs h
  have hR : Rd w sz p l (ys.flatMap f) := Sat.rd (t := t) (c := c) (h : Sat w₀ (own t sz p l c (ys.flatMap f)) w)
  have hcap := (h : Sat w₀ (own t sz p l c (ys.flatMap f)) w).own_cap
  have := hR.sub (lo := 0) (hi := j) (c := c) (by omega) (by omega) hcap
  rw [Nat.zero_mul, List.drop_zero, Nat.sub_zero, flatTake hf] at this
  refine ⟨this.1, fun h => hR.2.1 (by omega), fun a e i u hu => ?_⟩
  refine hR.2.2 a e i u ?_
  rw [← flatTake hf, List.getElem?_take] at hu
  split at hu
  · exact hu
  · cases hu
theorem tab_back (hf : ∀ y, (f y).length = sz) (hs : 0 < sz) (h : Sat w₀ (tab t sz f p l c ys) w) (hj : j ≤ l) : Rd w sz (if c = j then p else p.map (·.add (j * sz))) (l - j) ((ys.drop j).flatMap f) := by
  have hl := tab_len hf hs h
  have hR : Rd w sz p l (ys.flatMap f) := Sat.rd (t := t) (c := c) (h : Sat w₀ (own t sz p l c (ys.flatMap f)) w)
  have hcap := (h : Sat w₀ (own t sz p l c (ys.flatMap f)) w).own_cap
  have := hR.sub (lo := j) (hi := l) (c := c) (by omega) (by omega) hcap
  have e2 : ((ys.flatMap f).drop (j * sz)).take ((l - j) * sz) = (ys.drop j).flatMap f := by
    have e3 : ys.flatMap f = (ys.take j).flatMap f ++ (ys.drop j).flatMap f := by rw [← List.flatMap_append, List.take_append_drop]
    rw [e3, List.drop_append, List.drop_of_length_le (by rw [flatLen hf, List.length_take]; exact Nat.mul_le_mul_right _ (Nat.min_le_left _ _)), flatLen hf, List.nil_append, List.length_take, Nat.min_eq_left (by omega), Nat.sub_self, List.drop_zero, List.take_of_length_le (by rw [flatLen hf, List.length_drop, hl]; exact Nat.le_refl _)]
  rw [e2] at this
  exact this
end
end Go.Sp
