/- ObjrefEncodes: the walk. No conditions. -/
import Derived.Test.YtgkdlglpkfoeeaaO3
import Derived.Test.YtgkdlglpkfoeeaaOp
set_option linter.unusedVariables false
set_option linter.unusedSimpArgs false
namespace Go.Proofs.Ytgkdlglpkfoeeaa
open Go.Sp Go.RowKit

theorem tenonlaw07_awake_ok {w₀ w : World} {F : HP} (h : Sat w₀ F w) : call Try.prog fn_tenonlaw07_awake #[] w fun v w' => v = .bool true ∧ Sat w₀ F w' := by
  apply tenonlaw07_awake_call
  unfold tenonlaw07_awake
  rw [← orF_noX]
  obtain ⟨x, hx, hxi, hxr⟩ : ∃ x : ORef, x = ⟨0, 5, 1, 2, List.replicate 32 0⟩ ∧ OIn x ∧ rightB x = true := ⟨_, rfl, ⟨by decide, by decide, by decide, by decide, rfl, by decide⟩, rfl⟩
  have e : orF x = #[.int .u32 0, .int .u32 5, .int .u64 1, .int .u64 2, .int .u8 0, .int .u8 0, .int .u8 0, .int .u8 0, .int .u8 0, .int .u8 0, .int .u8 0, .int .u8 0, .int .u8 0, .int .u8 0, .int .u8 0, .int .u8 0, .int .u8 0, .int .u8 0, .int .u8 0, .int .u8 0, .int .u8 0, .int .u8 0, .int .u8 0, .int .u8 0, .int .u8 0, .int .u8 0, .int .u8 0, .int .u8 0, .int .u8 0, .int .u8 0, .int .u8 0, .int .u8 0, .int .u8 0, .int .u8 0, .int .u8 0, .int .u8 0] := by subst hx; rfl
  rw [← e]
  refine call_mono (objref_Encode_ok h hxi hxr) ?_
  rintro _ w1 ⟨q, d, rfl, h1⟩
  have hL := encL_length hxi
  have hB : ∀ b ∈ encL x, 0 ≤ b ∧ b ≤ 255 := by subst hx; decide
  refine ⟨_, _, _, _, rfl, call_mono (objref_Decode_ok h1 (Gives.left Gives.own) (by omega) hB) ?_⟩
  have hdec : decR (encL x) = (x, 0) := by
    rw [decR, if_neg (by omega), okD_iff (by omega) hB]
    rw [(decX_encL hxi).1, hxr]
    simp
  rw [hdec]
  rintro _ w2 ⟨rfl, h2⟩
  refine ⟨_, _, rfl, new_ok h2 fun k w3 h3 => stA_ok h3 (orF_size noX_in) (orF_size hxi) orF_one fun w4 h4 => br_true rfl <| br_true rfl <| br_true rfl ?_⟩
  have rd : ∀ (i : Int) (b : Int) {K : Prop}, 0 ≤ i → i < 64 → (encL x)[i.toNat]? = some b → K → Sp.idx q 64 i 1 fun a => ldI .u8 a w4 fun n => br ((n : Int) == b) K ((Value.bool false) = .bool true ∧ Sat w₀ F w4) := by
    intro i b K h0 h1 hb hk
    refine idx8 h4.right.left.rd h0 h1 (Same.refl _) fun a y hya hca => ldI_ok hca <| br_true ?_ hk
    rw [hb] at hya
    cases hya
    simp
  refine rd 0 77 (by omega) (by omega) (by subst hx; decide) <| rd 8 5 (by omega) (by omega) (by subst hx; decide) <| rd 24 2 (by omega) (by omega) (by subst hx; decide) <| ldI_ok (n := 5) (h4.left.cell (i := 1) (by subst hx; rfl)) ⟨rfl, h4.right.right⟩

section
open Go.ChangeShapes Go.WideShapes Go.Deep
variable {H : Type} {enc : TypeId × Value → H} {W : World} {base : Nat}
theorem open_bytes16 {fuel : Nat} {cs : List Value} {x : DataW H × List MemPlace} (h : DataW.trod enc Try.prog W 0 (fun _ => true) true fuel T_api_Guid cs = some x) : ∃ bs : List Int, cs = by8 bs ∧ bs.length = 16 ∧ ∀ b ∈ bs, 0 ≤ b ∧ b ≤ 255 := by
  obtain ⟨xs, m, _, _, hl, hxl, hx⟩ := DataW.trod_array Try.underlying25 h
  have hc1 : Try.prog.cellsOf T_uint8 = 1 := by kernel_rfl
  have hc16 : Try.prog.cellsOf T_api_Guid = 16 := by kernel_rfl
  rw [hc16] at hl
  obtain ⟨bs, hbl, hb⟩ := collect (P := fun i (z : Int) => cs[i]? = some (.int .u8 z) ∧ 0 ≤ z ∧ z ≤ 255) 16 (fun i hi => by
    have h1 := hx i hi
    rw [hc1, Nat.mul_one] at h1
    have hlt : i < cs.length := by omega
    rw [List.drop_eq_getElem_cons hlt, List.take_succ_cons, List.take_zero] at h1
    have h2 : xs[i]? = some (xs[i]'(by omega)) := by simp [show i < xs.length by omega]
    rw [h2] at h1
    obtain ⟨z, hz, _, hw⟩ := DataW.trod_int Try.underlying5 h1
    simp only [List.cons.injEq, and_true] at hz
    have hr := wf_range hw
    simp [IntKind.min, IntKind.max, IntKind.signed, IntKind.bits] at hr
    exact ⟨z, by rw [← hz]; simp [hlt], hr⟩)
  refine ⟨bs, ?_, hbl, fun b hm => ?_⟩
  · apply List.ext_getElem?
    intro i
    by_cases hi : i < 16
    · have h2 : bs[i]? = some (bs[i]'(by omega)) := by simp [show i < bs.length by omega]
      rw [(hb i _ h2).1]
      simp [by8, h2]
    · rw [List.getElem?_eq_none (by omega), List.getElem?_eq_none (by rw [by8_length]; omega)]
  · obtain ⟨i, hi⟩ := List.mem_iff_getElem?.1 hm
    exact (hb i b hi).2
theorem open_Objref {v : Value} {d : DataW H} {ps : List MemPlace} (hv : Value.okWide Try.prog W .any base T_api_Objref v) (h : DataW.Trod enc Try.prog W 0 (fun _ => true) true T_api_Objref v d ps) :
    ∃ x, v = .agg (orF x) ∧ OIn x := by
  have hu := Try.underlying27
  obtain ⟨cs, rfl, hsz⟩ := okWide_struct hu hv
  obtain ⟨fuel, h⟩ := h
  have hc : Try.prog.cellsOf T_api_Objref = 36 := by kernel_rfl
  have hl : cs.toList.length = 36 := by simpa [hc] using hsz
  have h : DataW.trod enc Try.prog W 0 (fun _ => true) true fuel T_api_Objref cs.toList = some (d, ps) := h
  generalize hcs : cs.toList = l at h hl
  match l, hl with
  | c0 :: c1 :: c2 :: c3 :: rest, hl =>
    obtain ⟨_, _, f0⟩ := field_cell hu h 0 rfl (by kernel_rfl) (v := c0) rfl
    obtain ⟨_, _, f1⟩ := field_cell hu h 1 rfl (by kernel_rfl) (v := c1) rfl
    obtain ⟨_, _, f2⟩ := field_cell hu h 2 rfl (by kernel_rfl) (v := c2) rfl
    obtain ⟨_, _, f3⟩ := field_cell hu h 3 rfl (by kernel_rfl) (v := c3) rfl
    obtain ⟨m0, h0, _, w0⟩ := DataW.trod_int Try.underlying22 f0
    obtain ⟨m1, h1, _, w1⟩ := DataW.trod_int Try.underlying22 f1
    obtain ⟨m2, h2, _, w2⟩ := DataW.trod_int Try.underlying23 f2
    obtain ⟨m3, h3, _, w3⟩ := DataW.trod_int Try.underlying23 f3
    obtain ⟨xs, n, _, _, _, hxl, hx⟩ := DataW.trod_struct hu h
    have hxl : xs.length = 6 := hxl
    have hg : Try.prog.cellsOf T_api_Guid = 16 := by kernel_rfl
    have x4 := hx 4 _ rfl
    have x5 := hx 5 _ rfl
    rw [show xs[4]? = some (xs[4]'(by omega)) by simp [show 4 < xs.length by omega]] at x4
    rw [show xs[5]? = some (xs[5]'(by omega)) by simp [show 5 < xs.length by omega]] at x5
    obtain ⟨b4, e4, l4, r4⟩ := open_bytes16 x4
    obtain ⟨b5, e5, l5, r5⟩ := open_bytes16 x5
    have g4 : rest.take 16 = by8 b4 := by
      have : ((c0 :: c1 :: c2 :: c3 :: rest).drop 4).take (Try.prog.cellsOf T_api_Guid) = by8 b4 := e4
      rw [hg] at this
      simpa using this
    have g5 : rest.drop 16 = by8 b5 := by
      have : ((c0 :: c1 :: c2 :: c3 :: rest).drop 20).take (Try.prog.cellsOf T_api_Guid) = by8 b5 := e5
      rw [hg] at this
      have h20 : (c0 :: c1 :: c2 :: c3 :: rest).drop 20 = rest.drop 16 := by simp
      rw [h20, List.take_of_length_le (by simp at hl ⊢; omega)] at this
      exact this
    simp only [List.cons.injEq, and_true] at h0 h1 h2 h3
    subst h0 h1 h2 h3
    have q0 := wf_range w0
    have q1 := wf_range w1
    have q2 := wf_range w2
    have q3 := wf_range w3
    simp [IntKind.min, IntKind.max, IntKind.signed, IntKind.bits] at q0 q1 q2 q3
    refine ⟨⟨m0, m1, m2, m3, b4 ++ b5⟩, ?_, ⟨q0, q1, q2, q3, by simp [l4, l5], fun b hb => ?_⟩⟩
    · congr 1
      apply Array.ext'
      rw [hcs]
      show _ = orL _ ++ by8 (b4 ++ b5)
      rw [by8_append, ← g4, ← g5, List.take_append_drop]
      rfl
    · rcases List.mem_append.1 hb with hb | hb
      · exact r4 b hb
      · exact r5 b hb
end
theorem ObjrefEncodes_walk {W : World} {x : ORef} (hx : OIn x) :
    call Try.prog fn_tenonlaw07_ObjrefEncodes #[.agg (orF x)] W fun v w' => v = .bool true ∧ Below W.heap.size W w' := by
  apply tenonlaw07_ObjrefEncodes_call
  unfold tenonlaw07_ObjrefEncodes
  refine new_ok (Sat.start W) fun k w1 h1 => ldO h1 hx ?_
  cases hr : rightB x with
  | false =>
    refine call_mono (objref_Encode_no h1 hx hr) ?_
    rintro _ w2 ⟨rfl, h2⟩
    refine ⟨_, _, _, _, rfl, ldO h2 hx <| call_mono (tenonref07_Right_ok h2 hx) ?_⟩
    rw [hr]
    rintro _ w3 ⟨rfl, h3⟩
    refine asB_ok <| br_true rfl <| br_true rfl <| ldO h3 hx <| call_mono (objref_Check_ok h3 hx) ?_
    rw [hr]
    rintro _ w4 ⟨rfl, h4⟩
    refine asI_ok <| br_true rfl <| br_true rfl <| call_mono (tenonlaw07_awake_ok h4) ?_
    rintro _ w5 ⟨rfl, h5⟩
    exact asB_ok ⟨rfl, h5.right.below'⟩
  | true =>
    refine call_mono (objref_Encode_ok h1 hx hr) ?_
    rintro _ w2 ⟨q, d, rfl, h2⟩
    have h2 := h2.p1
    refine ⟨_, _, _, _, rfl, ldO h2 hx <| call_mono (tenonref07_Right_ok h2 hx) ?_⟩
    rw [hr]
    rintro _ w3 ⟨rfl, h3⟩
    refine asB_ok <| br_false rfl <| br_true rfl <| ldO h3 hx <| call_mono (objref_Check_ok h3 hx) ?_
    rw [hr]
    rintro _ w4 ⟨rfl, h4⟩
    refine asI_ok <| br_true rfl <| ldO h4 hx <| call_mono (tenonref07_Encode_ok (pre := []) h4 hx (Gives.nil _ _ _) (by omega) (by decide)) ?_
    rintro _ w5 ⟨q2, d2, rfl, h5⟩
    refine asS_ok <| call_reads (tenonref01_SameBytes_ok h5.right.right.left.rd h5.left.rd (by omega)) fun w6 hs => asB_ok <| br_true (by simp) <| call_mono (tenonlaw07_awake_ok (h5.same hs)) ?_
    rintro _ w7 ⟨rfl, h7⟩
    exact asB_ok ⟨rfl, h7.right.right.right.below'⟩
theorem ObjrefEncodes_row {W : World} {v : Value} (h : ∃ x, v = .agg (orF x) ∧ OIn x) :
    call Try.prog fn_tenonlaw07_ObjrefEncodes #[v] W fun v w' => v = .bool true ∧ Below W.heap.size W w' := by
  obtain ⟨x, rfl, hx⟩ := h
  exact ObjrefEncodes_walk hx
end Go.Proofs.Ytgkdlglpkfoeeaa
