/- VariantChecks: the walk. No conditions. -/
import Derived.Test.YtmecgkeplkchcaaV11
import Derived.Test.YtmecgkeplkchcaaVO
set_option linter.unusedVariables false
set_option linter.unusedSimpArgs false
set_option linter.unusedSectionVars false
set_option maxRecDepth 100000
namespace Go.Proofs.Ytmecgkeplkchcaa
open Go.Sp Go.RowKit

theorem VariantChecks_row {W : World} {v : Value} (h : VArg W v) : call Try.prog fn_tenonlaw06_VariantChecks #[v] W fun v w' => v = .bool true ∧ Below W.heap.size W w' := by
  obtain ⟨x, rfl, hO, hI⟩ := h
  have hV : VGives (old W) x := VGives.old hO
  have h0 : Sat W (old W) W := Sat.start W
  apply tenonlaw06_VariantChecks_call
  unfold tenonlaw06_VariantChecks
  refine new_ok h0 fun k1 w1 h1 => ?_
  have h1 : Sat W (blk k1 (va x) 24 * old W) w1 := h1
  have h1 := h1.drew
  refine ldV4 h1 <| ldV4 h1 <| call_mono (variant_Check_ok h1 (VGives.right hV) hI) ?_
  rintro _ w2 ⟨rfl, h2⟩
  refine asI_ok <| keepS_blk0 h2 <| call_mono (ref_Check_ok x 0 (by decide) (by decide) hI _ _ (VGives.right hV) h2) ?_
  rintro _ w3 ⟨rfl, h3⟩
  refine asI_ok <| br_true (by simp) <| call_mono (tenonlaw06_awake_ok h3) ?_
  rintro _ w4 ⟨rfl, h4⟩
  exact asB_ok ⟨rfl, h4.right.below'⟩
end Go.Proofs.Ytmecgkeplkchcaa
