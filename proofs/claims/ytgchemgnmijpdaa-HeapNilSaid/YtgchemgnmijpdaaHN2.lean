/- HeapNil: the walk. No conditions. -/
import Derived.Test.YtgchemgnmijpdaaHN1
set_option linter.unusedVariables false
set_option linter.unusedSimpArgs false
set_option maxRecDepth 100000
namespace Go.Proofs.Ytgchemgnmijpdaa
open Go.Sp Go.RowKit

section
open Go.ChangeShapes Go.WideShapes Go.Deep
variable {H : Type} {enc : TypeId × Value → H} {W : World} {base : Nat}
theorem open_Link {v : Value} {d : DataW H} {ps : List MemPlace} (hv : Value.okWide Try.prog W .any base T_api_Link v) (h : DataW.Trod enc Try.prog W 0 (fun _ => true) true T_api_Link v d ps) : ∃ x, v = .agg (lnA x) := by
  obtain ⟨cs, rfl, hsz⟩ := okWide_struct Try.underlying35 hv
  obtain ⟨fuel, h⟩ := h
  have hc : Try.prog.cellsOf T_api_Link = 2 := by kernel_rfl
  rw [hc] at hsz
  obtain ⟨cs⟩ := cs
  match cs, hsz with
  | [c0, c1], _ =>
    have hu := Try.underlying35
    obtain ⟨_, _, f0⟩ := field_cell hu h 0 rfl (by kernel_rfl) (v := c0) rfl
    obtain ⟨_, _, f1⟩ := field_cell hu h 1 rfl (by kernel_rfl) (v := c1) rfl
    obtain ⟨m0, h0, _, _⟩ := DataW.trod_int Try.underlying3 f0
    obtain ⟨m1, h1, _, _⟩ := DataW.trod_int Try.underlying29 f1
    simp only [List.cons.injEq, and_true] at h0 h1
    subst h0 h1
    exact ⟨(m0, m1), rfl⟩
end
theorem HeapNil_row {W : World} {x0 x1 : Int} {v : Value} (h0 : 0 ≤ x0 ∧ x0 ≤ 18446744073709551615) (h1 : -9223372036854775808 ≤ x1 ∧ x1 ≤ 9223372036854775807) (hv : ∃ x, v = .agg (lnA x)) :
    call Try.prog fn_tenonlaw11_HeapNil #[.int .u64 x0, .int .i64 x1, v] W fun v w' => v = .bool true ∧ Below W.heap.size W w' := by
  obtain ⟨x, rfl⟩ := hv
  apply tenonlaw11_HeapNil_call
  unfold tenonlaw11_HeapNil
  refine new_ok (Sat.start W) fun k1 w1 h1 => ?_
  have h1 : Sat W (blk k1 (lnA x) 35 * old W) w1 := h1
  refine call_pure heap_Make_nil ⟨_, _, rfl, call_pure heap_Up_nil ⟨_, _, rfl, call_pure heap_Down_nil ⟨_, _, _, _, _, _, _, rfl, ldA_blk0 h1 rfl <| call_mono (heap_Put_nil h1) ?_⟩⟩⟩
  rintro _ w5 ⟨rfl, h5⟩
  refine ⟨_, _, _, _, _, _, _, rfl, call_pure heap_Value_nil ⟨_, _, rfl, call_pure heap_Whole_nil ⟨_, _, rfl, new_ok h5 fun k23 w8 h8 => call_mono (heap_Remove_nil h8) ?_⟩⟩⟩
  rintro _ w9 ⟨rfl, h9⟩
  refine ⟨_, _, _, _, _, _, _, rfl, call_mono (Graph_nil h9) ?_⟩
  rintro _ w10 ⟨rfl, h10⟩
  refine ⟨_, _, _, _, rfl, new_ok h10 fun k31 w11 h11 => stA_ok h11 rfl rfl (by simp [Value.oneCell']) fun w12 h12 => ?_⟩
  refine br_false rfl <| br_false rfl <| br_false rfl <| br_false rfl <| br_false rfl <| br_false rfl <| br_false rfl <| br_false rfl <| br_false rfl <| call_pure heap_Store_nil <| asI_ok <| br_true rfl <| call_pure heap_Count_nil <| asI_ok <| br_true rfl <| call_mono (nil_all_ok (most := 9) h12) ?_
  rintro _ w15 ⟨p, c, rfl, h15⟩
  refine asS_ok <| br_true rfl <| call_mono (heap_links_nil (h := x0) (most := 9) h15) ?_
  rintro _ w16 ⟨p', c', rfl, h16⟩
  refine asS_ok <| br_true rfl <| ldS_ok (cell_blk h16 (i := 0) rfl) <| br_true rfl <| br_true rfl <| call_mono (tenonlaw11_awake_ok h16) ?_
  rintro _ w17 ⟨rfl, h17⟩
  exact asB_ok ⟨rfl, h17.right.right.below'⟩
end Go.Proofs.Ytgchemgnmijpdaa
