
/- PacketEncodes, PacketSame, PacketBack: the walks. No conditions. -/
import Derived.Test.YtjjnbcdcppnllaaP8
set_option linter.unusedVariables false
set_option linter.unusedSimpArgs false
set_option linter.unusedSectionVars false
set_option maxRecDepth 100000
namespace Go.Proofs.Ytjjnbcdcppnllaa
open Go.Sp Go.RowKit

section
open Go.ChangeShapes Go.WideShapes Go.Deep
variable {H : Type} {enc : TypeId × Value → H} {W : World} {base : Nat}
/-- A packet that came in. -/
def PArg (W : World) (v : Value) : Prop := ∃ x p l c, v = .agg (pkF x (.slice p l c)) ∧ PIn x ∧ Rd W 36 p l (x.rs.flatMap orC) ∧ l ≤ 9223372036854775807
theorem open_Packet {v : Value} {d : DataW H} {ps : List MemPlace} (hv : Value.okWide Try.prog W .any base T_api_Packet v) (h : DataW.Trod enc Try.prog W 0 (fun _ => true) true T_api_Packet v d ps) : PArg W v := by
  have hu := Try.underlying35
  obtain ⟨cs, rfl, hsz⟩ := okWide_struct hu hv
  obtain ⟨fuel, h⟩ := h
  have hc : Try.prog.cellsOf T_api_Packet = 25 := by kernel_rfl
  have hl : cs.toList.length = 25 := by simpa [hc] using hsz
  have h : DataW.trod enc Try.prog W 0 (fun _ => true) true fuel T_api_Packet cs.toList = some (d, ps) := h
  obtain ⟨l, hcs⟩ : ∃ l, cs.toList = l := ⟨_, rfl⟩
  rw [hcs] at h hl
  match l, hl with
  | c0 :: c1 :: c2 :: c3 :: c4 :: rest, hl =>
    have hrl : rest.length = 20 := by simpa using hl
    obtain ⟨e0, h16⟩ : ∃ c, rest[16]? = some c := ⟨rest[16]'(by omega), by simp [hrl]⟩
    obtain ⟨e1, h17⟩ : ∃ c, rest[17]? = some c := ⟨rest[17]'(by omega), by simp [hrl]⟩
    obtain ⟨e2, h18⟩ : ∃ c, rest[18]? = some c := ⟨rest[18]'(by omega), by simp [hrl]⟩
    obtain ⟨e3, h19⟩ : ∃ c, rest[19]? = some c := ⟨rest[19]'(by omega), by simp [hrl]⟩
    obtain ⟨_, _, f0⟩ := field_cell hu h 0 rfl (by kernel_rfl) (v := c0) rfl
    obtain ⟨_, _, f1⟩ := field_cell hu h 1 rfl (by kernel_rfl) (v := c1) rfl
    obtain ⟨_, _, f2⟩ := field_cell hu h 2 rfl (by kernel_rfl) (v := c2) rfl
    obtain ⟨_, _, f3⟩ := field_cell hu h 3 rfl (by kernel_rfl) (v := c3) rfl
    obtain ⟨_, _, f4⟩ := field_cell hu h 4 rfl (by kernel_rfl) (v := c4) rfl
    obtain ⟨_, _, f5⟩ := field_part hu h 5 (n := 16) rfl (by kernel_rfl)
    obtain ⟨_, _, f6⟩ := field_cell hu h 6 rfl (by kernel_rfl) (v := e0) (by simpa using h16)
    obtain ⟨_, _, f7⟩ := field_cell hu h 7 rfl (by kernel_rfl) (v := e1) (by simpa using h17)
    obtain ⟨_, _, f8⟩ := field_cell hu h 8 rfl (by kernel_rfl) (v := e2) (by simpa using h18)
    obtain ⟨_, _, f9⟩ := field_cell hu h 9 rfl (by kernel_rfl) (v := e3) (by simpa using h19)
    obtain ⟨m0, g0, _, w0⟩ := DataW.trod_int Try.underlying3 f0
    obtain ⟨m1, g1, _, w1⟩ := DataW.trod_int Try.underlying3 f1
    obtain ⟨m2, g2, _, w2⟩ := DataW.trod_int Try.underlying3 f2
    obtain ⟨m3, g3, _, w3⟩ := DataW.trod_int Try.underlying30 f3
    obtain ⟨m4, g4, _, w4⟩ := DataW.trod_int Try.underlying30 f4
    obtain ⟨bs, g5, lb, rb⟩ := open_bytes16 f5
    obtain ⟨m6, g6, _, w6⟩ := DataW.trod_int Try.underlying3 f6
    obtain ⟨m7, g7, _, w7⟩ := DataW.trod_int Try.underlying2 f7
    obtain ⟨m8, g8, _, w8⟩ := DataW.trod_int Try.underlying26 f8
    have hf : Try.prog.info? T_api_Objref = some (Try.prog.types[T_api_Objref]'(of_decide_eq_true (by kernel_rfl))) := by kernel_rfl
    obtain ⟨p, ln, c, zs, e, hzl, hlc, hcm, hp, hz⟩ := open_elems (sz := 36) (R := fun a (x : OR) => ∀ j, j < 36 → W.cell? (a.add j) = (orC x)[j]?) Try.underlying33 hf (by kernel_rfl) f9 (fun a cs n y hcl hat htr => by
      obtain ⟨x, e, hx⟩ := open_ORc htr hcl
      refine ⟨⟨x, hx⟩, fun j hj => ?_⟩
      rw [hat j hj, e]
      simp [orC, orF])
    simp only [List.cons.injEq, and_true] at g0 g1 g2 g3 g4 g6 g7 g8
    subst g0 g1 g2 g3 g4 g6 g7 g8 e
    have r0 := wf_range w0
    have r1 := wf_range w1
    have r2 := wf_range w2
    have r3 := wf_range w3
    have r4 := wf_range w4
    have r6 := wf_range w6
    have r7 := wf_range w7
    have r8 := wf_range w8
    simp [IntKind.min, IntKind.max, IntKind.signed, IntKind.bits] at r0 r1 r2 r3 r4 r6 r7 r8
    refine ⟨⟨m0, m1, m2, m3, m4, bs, m6, m7, m8, zs⟩, p, ln, c, ?_, ⟨r0, r1, r2, r3, r4, lb, rb, r6, r7, r8⟩, ⟨by rw [flatLen orC_len, hzl], hp, fun a ea j u hj => ?_⟩, by simp only [maxLen] at hcm; omega⟩
    · congr 1
      apply Array.ext'
      rw [hcs]
      show _ = _ :: _ :: _ :: _ :: _ :: (by8 bs ++ _)
      have g5' : rest.take 16 = by8 bs := g5
      have hd : rest.drop 16 = [.int .i64 m6, .int .i64 m7, .int .i64 m8, .slice p ln c] := by
        apply List.ext_getElem?
        intro j
        rw [List.getElem?_drop]
        match j with
        | 0 => exact h16
        | 1 => exact h17
        | 2 => exact h18
        | 3 => exact h19
        | j + 4 => rw [List.getElem?_eq_none (by omega), List.getElem?_eq_none (by simp)]
      have er : rest = by8 bs ++ [.int .i64 m6, .int .i64 m7, .int .i64 m8, .slice p ln c] := by rw [← g5', ← hd, List.take_append_drop]
      rw [er]
      rfl
    · have hjl := (List.getElem?_eq_some_iff.1 hj).1
      rw [flatLen orC_len] at hjl
      have hi : j / 36 < zs.length := Nat.div_lt_of_lt_mul (by rw [Nat.mul_comm]; exact hjl)
      have hx : zs[j / 36]? = some zs[j / 36] := by simp [hi]
      have hm : j % 36 < 36 := Nat.mod_lt _ (by decide)
      have e : j = j / 36 * 36 + j % 36 := by omega
      have h1 := hz a ea (j / 36) _ hx (j % 36) hm
      rw [Sp.add_add, ← e] at h1
      rw [h1, ← flatGet orC_len hx hm, ← e]
      exact hj
end
end Go.Proofs.Ytjjnbcdcppnllaa
