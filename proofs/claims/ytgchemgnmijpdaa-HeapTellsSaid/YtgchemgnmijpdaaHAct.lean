/- Acts, as they come in. No conditions. -/
import Derived.Test.YtgchemgnmijpdaaH10
import Derived.Test.YtgchemgnmijpdaaOp
set_option linter.unusedVariables false
set_option linter.unusedSimpArgs false
set_option maxRecDepth 100000
namespace Go.Proofs.Ytgchemgnmijpdaa
open Go.Sp Go.RowKit

structure ActD where
  kd : Int
  a : Int
  h : Int
  x : Int
  raw : Int
abbrev I64 (n : Int) : Prop := -9223372036854775808 ≤ n ∧ n ≤ 9223372036854775807
def acA (x : ActD) : Array Value := #[.int .i64 x.kd, .int .i64 x.a, .int .i64 x.h, .int .i64 x.x, .int .u64 x.raw]
theorem acA_one (x : ActD) : ∀ u ∈ (acA x).toList, u.oneCell' = true := by simp [acA, Value.oneCell']
structure ActAt (w : World) (a : Addr) (x : ActD) : Prop where
  at_ : ∀ j, j < 5 → w.cell? (a.add j) = (acA x)[j]?
  rk : I64 x.kd
  ra : I64 x.a
  rh : I64 x.h
  rx : I64 x.x
  rr : 0 ≤ x.raw ∧ x.raw ≤ 18446744073709551615
structure Acts (w : World) (p : Option Addr) (l : Nat) (xs : List ActD) : Prop where
  len : xs.length = l
  ptr : 0 < l → ∃ a, p = some a
  all : ∀ a, p = some a → ∀ (i : Nat) (x : ActD), xs[i]? = some x → ActAt w (a.add (i * 5)) x
/-- The act at a place, read. -/
theorem Acts.idx {w₀ w W : World} {p : Option Addr} {l : Nat} {xs : List ActD} {i : Int} {K : Addr → Prop} (h : Acts W p l xs) (hs : Sat w₀ (old W) w) (h0 : 0 ≤ i) (h1 : i < (l : Int))
    (hk : ∀ a x, xs[i.toNat]? = some x → I64 x.kd → I64 x.a → I64 x.h → I64 x.x → (0 ≤ x.raw ∧ x.raw ≤ 18446744073709551615) → (∀ {K : Array Value → Prop}, K (acA x) → ldA a 5 w K) → K a) : idx p l i 5 K := by
  obtain ⟨a, rfl⟩ := h.ptr (by omega)
  have hi : i.toNat < xs.length := by rw [h.len]; omega
  have hx : xs[i.toNat]? = some xs[i.toNat] := by simp [hi]
  have hA := h.all a rfl i.toNat _ hx
  exact ⟨⟨h0, h1⟩, hk _ _ hx hA.rk hA.ra hA.rh hA.rx hA.rr fun hK => ldA_ok rfl (fun j hj => by
    have hj5 : j < (acA xs[i.toNat]).size := hj
    exact hs.old_cell ((hA.at_ j hj).trans (Array.getElem?_eq_getElem hj5)) |>.trans (Array.getElem?_eq_getElem hj5).symm) hK⟩
section
open Go.ChangeShapes Go.WideShapes Go.Deep
variable {H : Type} {enc : TypeId × Value → H} {W : World} {base : Nat}
theorem open_Acts {v : Value} {d : DataW H} {ps : List MemPlace} (hv : Value.okWide Try.prog W .any base T_sl_tenonlaw11_Act v) (h : DataW.Trod enc Try.prog W 0 (fun _ => true) true T_sl_tenonlaw11_Act v d ps) :
    ∃ p l c xs, v = .slice p l c ∧ l ≤ 9223372036854775807 ∧ Acts W p l xs := by
  obtain ⟨p0, l0, c0, rfl⟩ := okWide_slice Try.underlying45 hv
  obtain ⟨fuel, h⟩ := h
  have hf : Try.prog.info? T_tenonlaw11_Act = some (Try.prog.types[T_tenonlaw11_Act]'(of_decide_eq_true (by kernel_rfl))) := by kernel_rfl
  obtain ⟨p, l, c, zs, e, hzl, hlc, hc, hp, hz⟩ := open_elems (sz := 5) (R := fun a (x : ActD) => ActAt W a x) Try.underlying45 hf (by kernel_rfl) h (fun a cs n y hcl hat htr => by
    match cs, hcl with
    | [c0, c1, c2, c3, c4], _ =>
      have hu := Try.underlying47
      obtain ⟨_, _, f0⟩ := field_cell hu htr 0 rfl (by kernel_rfl) (v := c0) rfl
      obtain ⟨_, _, f1⟩ := field_cell hu htr 1 rfl (by kernel_rfl) (v := c1) rfl
      obtain ⟨_, _, f2⟩ := field_cell hu htr 2 rfl (by kernel_rfl) (v := c2) rfl
      obtain ⟨_, _, f3⟩ := field_cell hu htr 3 rfl (by kernel_rfl) (v := c3) rfl
      obtain ⟨_, _, f4⟩ := field_cell hu htr 4 rfl (by kernel_rfl) (v := c4) rfl
      obtain ⟨m0, h0, _, w0⟩ := DataW.trod_int Try.underlying3 f0
      obtain ⟨m1, h1, _, w1⟩ := DataW.trod_int Try.underlying3 f1
      obtain ⟨m2, h2, _, w2⟩ := DataW.trod_int Try.underlying3 f2
      obtain ⟨m3, h3, _, w3⟩ := DataW.trod_int Try.underlying3 f3
      obtain ⟨m4, h4, _, w4⟩ := DataW.trod_int Try.underlying29 f4
      simp only [List.cons.injEq, and_true] at h0 h1 h2 h3 h4
      subst h0 h1 h2 h3 h4
      have r0 := wf_range w0
      have r1 := wf_range w1
      have r2 := wf_range w2
      have r3 := wf_range w3
      have r4 := wf_range w4
      simp [IntKind.min, IntKind.max, IntKind.signed, IntKind.bits] at r0 r1 r2 r3 r4
      exact ⟨⟨m0, m1, m2, m3, m4⟩, fun j hj => by rw [hat j hj, acA]; simp, r0, r1, r2, r3, r4⟩)
  cases e
  exact ⟨p0, l0, c0, zs, rfl, by simp only [maxLen] at hc; omega, ⟨hzl, hp, fun a e i x hx => hz a e i x hx⟩⟩
end
end Go.Proofs.Ytgchemgnmijpdaa
