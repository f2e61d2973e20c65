/- A value that came in, as an argument. No conditions. -/
import Derived.Test.YtmecgkeplkchcaaV2
set_option linter.unusedVariables false
set_option linter.unusedSimpArgs false
set_option linter.unusedSectionVars false
set_option maxRecDepth 100000
namespace Go.Proofs.Ytmecgkeplkchcaa
open Go.Sp Go.RowKit

section
open Go.ChangeShapes Go.WideShapes Go.Deep
variable {H : Type} {enc : TypeId × Value → H} {W : World} {base : Nat}
theorem open_V : ∀ (fuel : Nat) (cs : List Value) (y : DataW H × List MemPlace), cs.length = 4 → DataW.trod enc Try.prog W 0 (fun _ => true) true fuel T_api_Var cs = some y → ∃ x, cs = vc x ∧ VOk W x ∧ VIn x := by
  intro fuel
  induction fuel using Nat.strongRecOn with
  | ind fuel ih =>
    intro cs y hl h
    have hu := Try.underlying24
    have hc1 : Try.prog.cellsOf T_api_Var = 4 := by kernel_rfl
    match cs, hl with
    | [c0, c1, c2, c3], _ =>
      obtain ⟨_, _, f0⟩ := field_cell hu h 0 rfl (by kernel_rfl) (v := c0) rfl
      obtain ⟨_, _, f1⟩ := field_cell hu h 1 rfl (by kernel_rfl) (v := c1) rfl
      obtain ⟨_, _, f2⟩ := field_cell hu h 2 rfl (by kernel_rfl) (v := c2) rfl
      obtain ⟨m0, g0, _, w0⟩ := DataW.trod_int Try.underlying3 f0
      obtain ⟨m1, g1, _, w1⟩ := DataW.trod_int Try.underlying2 f1
      obtain ⟨s, g2, _, w2⟩ := DataW.trod_string Try.underlying9 f2
      simp only [List.cons.injEq, and_true] at g0 g1 g2
      subst g0 g1 g2
      have r0 := wf_range w0
      have r1 := wf_range w1
      simp [IntKind.min, IntKind.max, IntKind.signed, IntKind.bits] at r0 r1
      simp only [maxLen] at w2
      obtain ⟨xs, n, rfl, _, _, hxl, hx⟩ := DataW.trod_struct hu h
      obtain ⟨z, h3⟩ : ∃ z, DataW.trod enc Try.prog W 0 (fun _ => true) true n T_sl_api_Var [c3] = some z := by
        have h2 := hx 3 _ rfl
        have e : ∀ (i : Nat), i = 3 → ∃ z, xs[i]? = some z := fun i hi => ⟨xs[i]'(by rw [hxl, hi]; decide), by simp [hxl, hi]⟩
        obtain ⟨z, hz⟩ := e 3 rfl
        rw [hz] at h2
        exact ⟨z, h2⟩
      rcases DataW.trod_slice Try.underlying22 h3 with ⟨hv, _⟩ | ⟨a, len, cap, elems, rest, k, rfl, hv, _, hb, hlc, hcm, hlen, hel, _, _⟩
      · simp only [List.cons.injEq, and_true] at hv
        subst hv
        exact ⟨.mk m0 m1 s none 0 [], rfl, .mk ⟨rfl, fun h => absurd h (by simp [VT.l]), fun a e => by cases e⟩ (fun y hy => by cases hy), .mk r0 r1 ⟨by simp only [VT.s]; omega, by simp [VT.l]⟩ (fun y hy => by cases hy)⟩
      · simp only [List.cons.injEq, and_true] at hv
        subst hv
        rw [hc1] at hel
        obtain ⟨zs, hzl, hz⟩ := collect (P := fun i (x : VT) => (∀ j, j < 4 → W.cell? ((a.add (i * 4)).add j) = (vc x)[j]?) ∧ VOk W x ∧ VIn x) len (fun i hlt => by
          have h1 := hel i hlt
          rw [List.getElem?_eq_getElem (by omega)] at h1
          obtain ⟨cs', h2, h4⟩ := Option.bind_eq_some_iff.1 h1
          obtain ⟨_, hcl, hat⟩ := World.cells?_some h2
          obtain ⟨x, e, hO, hI⟩ := ih k (by omega) cs' _ hcl h4
          exact ⟨x, fun j hj => by rw [hat j hj, e], hO, hI⟩)
        simp only [maxLen] at hcm
        refine ⟨.mk m0 m1 s (some a) cap zs, by simp [vc, VT.kd, VT.n, VT.s, VT.p, VT.c, VT.l, hzl], .mk ⟨by rw [flatLen vc_len], fun _ => ⟨a, rfl⟩, fun a' e j u hj => ?_⟩ (fun y hy => ?_), .mk r0 r1 ⟨by simp only [VT.s]; omega, by simp only [VT.l]; omega⟩ (fun y hy => ?_)⟩
        · cases e
          have hjl := (List.getElem?_eq_some_iff.1 hj).1
          rw [flatLen vc_len] at hjl
          simp only [VT.l] at hjl hj
          have hi : j / 4 < zs.length := Nat.div_lt_of_lt_mul (by rw [Nat.mul_comm]; exact hjl)
          have hx : zs[j / 4]? = some zs[j / 4] := by simp [hi]
          have hm : j % 4 < 4 := Nat.mod_lt _ (by decide)
          have e : j = j / 4 * 4 + j % 4 := by omega
          have h1 := (hz (j / 4) _ hx).1 (j % 4) hm
          rw [Sp.add_add, ← e] at h1
          rw [h1, ← flatGet vc_len hx hm, ← e]
          exact hj
        · obtain ⟨i, hi⟩ := List.mem_iff_getElem?.1 hy
          exact (hz i _ hi).2.1
        · obtain ⟨i, hi⟩ := List.mem_iff_getElem?.1 hy
          exact (hz i _ hi).2.2
/-- A value that came in. -/
def VArg (W : World) (v : Value) : Prop := ∃ x, v = .agg (va x) ∧ VOk W x ∧ VIn x
theorem open_Var {v : Value} {d : DataW H} {ps : List MemPlace} (hv : Value.okWide Try.prog W .any base T_api_Var v) (h : DataW.Trod enc Try.prog W 0 (fun _ => true) true T_api_Var v d ps) : VArg W v := by
  obtain ⟨cs, rfl, hsz⟩ := okWide_struct Try.underlying24 hv
  obtain ⟨fuel, h⟩ := h
  have hc : Try.prog.cellsOf T_api_Var = 4 := by kernel_rfl
  obtain ⟨x, e, hO, hI⟩ := open_V fuel cs.toList _ (by simpa [hc] using hsz) h
  exact ⟨x, by rw [va, ← e], hO, hI⟩
end
end Go.Proofs.Ytmecgkeplkchcaa
