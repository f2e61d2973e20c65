
/- ObjrefDecodes: the document's reading, and the walk. No conditions. -/
import Derived.Test.YtjjnbcdcppnllaaOQ
set_option linter.unusedVariables false
set_option linter.unusedSimpArgs false
set_option maxRecDepth 100000
namespace Go.Proofs.Ytjjnbcdcppnllaa
open Go.Sp Go.RowKit

theorem orF_set {x : ORef} {j : Nat} {b : Int} : (orF x).setIfInBounds (4 + j) (.int .u8 b) = orF { x with bs := x.bs.set j b } := by
  apply Array.ext'
  rw [Array.toList_setIfInBounds]
  show (orL x ++ by8 x.bs).set (4 + j) (.int .u8 b) = orL x ++ by8 (x.bs.set j b)
  rw [List.set_append_right _ _ (by simp [orL])]
  simp [orL, by8, List.map_set]
section
open Go.ChangeShapes Go.WideShapes Go.Deep
variable {H : Type} {enc : TypeId × Value → H} {W : World} {base : Nat}
theorem open_Bytes {v : Value} {d : DataW H} {ps : List MemPlace} (hv : Value.okWide Try.prog W .any base T_sl_uint8 v) (h : DataW.Trod enc Try.prog W 0 (fun _ => true) true T_sl_uint8 v d ps) :
    ∃ p c bs, v = .slice p (List.length bs) c ∧ bs.length ≤ c ∧ bs.length ≤ 9223372036854775807 ∧ Rd W 1 p bs.length (by8 bs) ∧ ∀ b ∈ bs, 0 ≤ b ∧ b ≤ 255 := by
  obtain ⟨p0, l0, c0, rfl⟩ := okWide_slice Try.underlying66 hv
  obtain ⟨fuel, h⟩ := h
  have hf : Try.prog.info? T_uint8 = some (Try.prog.types[T_uint8]'(of_decide_eq_true (by kernel_rfl))) := by kernel_rfl
  obtain ⟨p, l, c, zs, e, hlc, hc, hrd, hrg⟩ := open_nums Try.underlying66 hf (by kernel_rfl) Try.underlying5 h
  cases e
  have hl : zs.length = l0 := Rd.len8 hrd
  subst hl
  exact ⟨p0, c0, zs, rfl, hlc, by simp only [maxLen] at hc; omega, hrd, fun b hb => by have := hrg b hb; simpa [IntKind.min, IntKind.max, IntKind.signed, IntKind.bits] using this⟩
end

theorem decR_in {bs : List Int} (hr : ∀ b ∈ bs, 0 ≤ b ∧ b ≤ 255) : OIn (decR bs).1 := by
  unfold decR
  split
  · exact noX_in
  · split
    · exact decX_in (by omega) hr
    · exact noX_in
end Go.Proofs.Ytjjnbcdcppnllaa
