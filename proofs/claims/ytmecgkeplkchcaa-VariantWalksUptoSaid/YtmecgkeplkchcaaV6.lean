/- Values: the program's reading. No conditions. -/
import Derived.Test.YtmecgkeplkchcaaV5
set_option linter.unusedVariables false
set_option linter.unusedSimpArgs false
set_option linter.unusedSectionVars false
set_option maxRecDepth 100000
namespace Go.Proofs.Ytmecgkeplkchcaa
open Go.Sp Go.RowKit

theorem v0_in : VIn v0 := .mk (by decide) (by decide) ⟨by decide, by decide⟩ (fun y hy => by cases hy)
theorem v0_gives : VGives emp v0 := fun _ _ _ => .mk ⟨rfl, fun h => absurd h (by decide), fun a e => by cases e⟩ (fun y hy => by cases hy)
theorem leaf_gives {k n : Int} {s : ByteArray} : VGives emp (.mk k n s none 0 []) := fun _ _ _ => .mk ⟨rfl, fun h => absurd h (by simp [VT.l]), fun a e => by cases e⟩ (fun y hy => by cases hy)
theorem varTy : SliceTy Try.prog T_sl_api_Var T_api_Var (.agg (va v0)) 4 56 := ⟨by kernel_rfl, by kernel_rfl, rfl, by decide⟩
theorem wrap_in (n : Int) : -9223372036854775808 ≤ IntKind.wrap .i64 n ∧ IntKind.wrap .i64 n ≤ 9223372036854775807 := by
  simp only [IntKind.wrap, IntKind.signed, IntKind.bits]
  simp
  split <;> omega
section
variable {w₀ w : World} {F A : HP}
/-- The answer's cell, turned to nothing and read. -/
theorem bad_ok {k : Nat} {cs : Array Value} {e : Int} {R : Value → World → Prop} {X : Prop} (h : Sat w₀ (blk k cs 24 * A) w) (hc : cs.size = 4) (he : e ≠ 0) (hk : ∀ w', Sat w₀ A w' → R (.tuple #[.agg (va v0), .int .i64 e]) w') :
    br ((e : Int) != 0) (stA Try.prog (⟨k, 0, none⟩ : Addr) 4 #[.int .i64 0, .int .i64 0, .string ByteArray.empty, .slice none 0 0] w fun w2 => ldA (⟨k, 0, none⟩ : Addr) 4 w2 fun g => R (.tuple #[.agg g, .int .i64 e]) w2) X := by
  refine br_true (by simp [he]) <| stA_ok h hc rfl (va_one v0) fun w2 h2 => ?_
  have h2 : Sat w₀ (blk k (va v0) 24 * A) w2 := h2
  exact ldV4 h2 (hk _ h2.right)
theorem good_ok {k : Nat} {x : VT} {R : Value → World → Prop} {X : Prop} (h : Sat w₀ (blk k (va x) 24 * A) w) (hk : ∀ w', Sat w₀ A w' → R (.tuple #[.agg (va x), .int .i64 0]) w') :
    br ((0 : Int) != 0) X (ldA (⟨k, 0, none⟩ : Addr) 4 w fun g => stA Try.prog (⟨k, 0, none⟩ : Addr) 4 g w fun w2 => ldA (⟨k, 0, none⟩ : Addr) 4 w2 fun g' => R (.tuple #[.agg g', .int .i64 0]) w2) := by
  refine br_false (by simp) <| ldV4 h <| stA_ok h rfl rfl (va_one x) fun w2 h2 => ?_
  have h2 : Sat w₀ (blk k (va x) 24 * A) w2 := h2
  exact ldV4 h2 (hk _ h2.right)
end
end Go.Proofs.Ytmecgkeplkchcaa
