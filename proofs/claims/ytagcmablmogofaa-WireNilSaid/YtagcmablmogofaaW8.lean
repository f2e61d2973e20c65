/- WireNil: the walk. No conditions. -/
import Derived.Test.YtagcmablmogofaaW6
import Derived.Test.YtagcmablmogofaaOp
set_option linter.unusedVariables false
set_option linter.unusedSimpArgs false
namespace Go.Proofs.Ytagcmablmogofaa
open Go.Sp Go.RowKit

theorem WireNil_row {W : World} {n size most : Int} (hn : IntKind.u64.min ≤ n ∧ n ≤ IntKind.u64.max) (hs : IntKind.i64.min ≤ size ∧ size ≤ IntKind.i64.max) (hm : IntKind.i64.min ≤ most ∧ most ≤ IntKind.i64.max) :
    call Try.prog fn_tenonlaw05_WireNil #[.int .u64 n, .int .i64 size, .int .i64 most] W fun v w' => v = .bool true ∧ Below W.heap.size W w' := by
  have n1 : PureCall Try.prog fn_wire_Writer_Num #[.pointer none, .int .u64 n, .int .i64 size] (.int .i64 1) := by
    intro w
    apply wire_Writer_Num_call
    unfold wire_Writer_Num
    exact ⟨fun _ => False, br_true rfl ⟨rfl, rfl⟩, fun _ _ h => h.elim⟩
  have n2 : PureCall Try.prog fn_wire_Writer_Text #[.pointer none, .slice none 0 0] (.int .i64 1) := by
    intro w
    apply wire_Writer_Text_call
    unfold wire_Writer_Text
    exact br_true rfl ⟨rfl, rfl⟩
  have n3 : PureCall Try.prog fn_wire_Writer_Bytes #[.pointer none] (.slice none 0 0) := by
    intro w
    apply wire_Writer_Bytes_call
    unfold wire_Writer_Bytes
    exact br_true rfl ⟨rfl, rfl⟩
  have n4 : PureCall Try.prog fn_wire_Reader_Num #[.pointer none, .int .i64 size] (.tuple #[.int .u64 0, .int .i64 (if fitsB size = true then 6 else 1)]) := by
    intro w
    apply wire_Reader_Num_call
    unfold wire_Reader_Num
    refine call_pure (wire_fits_ok size) <| asB_ok ?_
    cases fitsB size with
    | true => exact br_false rfl <| br_true rfl ⟨rfl, rfl⟩
    | false => exact br_true rfl ⟨rfl, rfl⟩
  have n5 : PureCall Try.prog fn_wire_Reader_Text #[.pointer none, .int .i64 most] (.tuple #[.slice none 0 0, .int .i64 6]) := by
    intro w
    apply wire_Reader_Text_call
    unfold wire_Reader_Text
    exact br_true rfl ⟨rfl, rfl⟩
  have n6 : ∀ w, Reads Try.prog fn_wire_Reader_Left #[.pointer none] w (.int .i64 0) := by
    intro w
    apply wire_Reader_Left_call
    unfold wire_Reader_Left
    exact br_true rfl ⟨rfl, Same.refl _⟩
  have n7 : ∀ w, Reads Try.prog fn_wire_Reader_End #[.pointer none] w (.int .i64 0) := by
    intro w
    apply wire_Reader_End_call
    unfold wire_Reader_End
    refine call_reads (n6 w) fun w1 hs => asI_ok <| br_false rfl ⟨rfl, hs⟩
  apply tenonlaw05_WireNil_call
  unfold tenonlaw05_WireNil
  refine call_pure n1 <| asI_ok <| br_false rfl <| call_pure n2 <| asI_ok <| br_false rfl <| call_pure n3 <| asS_ok <| br_false rfl ⟨fun z w' => z = (if fitsB size = true then 6 else 1) ∧ w' = W, ?_, ?_⟩
  · refine call_pure (tenonref05_Fits_ok size) <| asB_ok ?_
    cases fitsB size with
    | true => exact br_true rfl ⟨rfl, rfl⟩
    | false => exact br_false rfl ⟨rfl, rfl⟩
  · rintro u z w5 ⟨rfl, rfl⟩
    refine call_pure n4 ⟨_, _, rfl, call_pure n5 ⟨_, _, _, _, rfl, br_true rfl <| br_true (by simp) <| br_true rfl <| br_true rfl <| call_reads (n6 _) fun w6 h6 => asI_ok <| br_true rfl <| call_reads (n7 _) fun w7 h7 => asI_ok <| br_true rfl <| call_mono (tenonlaw05_awake_ok (((Sat.start w5).same h6).same h7)) ?_⟩⟩
    rintro _ w8 ⟨rfl, h8⟩
    exact asB_ok ⟨rfl, h8.below'⟩
end Go.Proofs.Ytagcmablmogofaa
