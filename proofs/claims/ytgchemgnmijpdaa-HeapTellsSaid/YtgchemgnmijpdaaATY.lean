/- Slices of numbers. No conditions. -/
import Derived.Test.YtgchemgnmijpdaaG0
import Derived.Test.YtgchemgnmijpdaaG1
import Derived.Test.YtgchemgnmijpdaaAM
set_option linter.unusedVariables false
set_option linter.unusedSimpArgs false
namespace Go.Proofs.Ytgchemgnmijpdaa
open Go.Sp Go.RowKit

theorem intsTy : SliceTy Try.prog T_sl_int T_int (.int .i64 0) 1 8 := ⟨by kernel_rfl, by kernel_rfl, rfl, by decide⟩
theorem u64sTy : SliceTy Try.prog T_sl_uint64 T_uint64 (.int .u64 0) 1 8 := ⟨by kernel_rfl, by kernel_rfl, rfl, by decide⟩
theorem flatU64 (xs : List Int) : xs.flatMap fU64 = xs.map fun x => Value.int .u64 x := by
  induction xs with
  | nil => rfl
  | cons x xs ih => simp [fU64, ih]
end Go.Proofs.Ytgchemgnmijpdaa
