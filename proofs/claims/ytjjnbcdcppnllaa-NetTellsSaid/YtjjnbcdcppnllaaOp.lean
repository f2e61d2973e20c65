/- What an argument's reading tells of memory: numbers, slices. No conditions. -/
import Derived.Test.YtjjnbcdcppnllaaSp8
import Derived.Deep.Slices
import Derived.ProofKit
import Derived.OpenShut
import Derived.SizedLaws
set_option linter.unusedVariables false
set_option linter.unusedSimpArgs false
set_option maxRecDepth 100000
namespace Go.Sp
open Go.RowKit Go.ChangeShapes Go.WideShapes Go.Deep

section
variable {H : Type} {enc : TypeId × Value → H} {P : Program} {W : World} {held : Bool}
theorem wf_range {k : IntKind} {n : Int} (h : (Lit.int k n).wf = true) : k.min ≤ n ∧ n ≤ k.max := by
  simpa [Lit.wf] using h
/-- A slice that came in: each element's cells. -/
theorem open_elems {t e : TypeId} {f : TypeInfo} {sz fuel : Nat} {v : Value} {x : DataW H × List MemPlace} {α : Type} {R : Addr → α → Prop} (ht : P.underlying t = some (.slice e)) (hf : P.info? e = some f) (hsz : f.size = sz) (h : DataW.trod enc P W 0 (fun _ => true) held fuel t [v] = some x)
    (hR : ∀ (a : Addr) (cs : List Value) (n : Nat) (y : DataW H × List MemPlace), cs.length = sz → (∀ j, j < sz → W.cell? (a.add j) = cs[j]?) → DataW.trod enc P W 0 (fun _ => true) held n e cs = some y → ∃ z, R a z) :
    ∃ (p : Option Addr) (l c : Nat) (zs : List α), v = .slice p l c ∧ zs.length = l ∧ l ≤ c ∧ c ≤ maxLen ∧ (0 < l → ∃ a, p = some a) ∧ ∀ a, p = some a → ∀ (i : Nat) z, zs[i]? = some z → R (a.add (i * sz)) z := by
  have hC : P.cellsOf e = sz := by simp [Program.cellsOf, hf, hsz]
  rcases open_slice ht h with ⟨hv, _⟩ | ⟨a, len, cap, m, n, D, Pl, hv, hb, hl, hm, hmm, hx, hi⟩
  · simp only [List.cons.injEq, and_true] at hv
    exact ⟨none, 0, 0, [], hv, rfl, Nat.le_refl _, by simp [maxLen], fun h => absurd h (by omega), fun a h => by cases h⟩
  · simp only [List.cons.injEq, and_true] at hv
    obtain ⟨zs, hzl, hz⟩ := collect (P := fun i z => R (a.add (i * sz)) z) len (fun i hlt => by
      obtain ⟨cs, hc, ht'⟩ := hi i (by simp at hmm; omega)
      rw [hC] at hc
      obtain ⟨_, hcl, hat⟩ := World.cells?_some hc
      exact hR _ cs n _ hcl hat ht')
    refine ⟨some a, len, cap, zs, hv, hzl, hl, hm, fun _ => ⟨a, rfl⟩, fun a' e i z hzi => ?_⟩
    cases e
    exact hz i z hzi
/-- A field of one cell, of a struct that came in. -/
theorem field_cell {t : TypeId} {fs : Array Field} {fuel : Nat} {cs : List Value} {x : DataW H × List MemPlace} (hu : P.underlying t = some (.struct fs)) (h : DataW.trod enc P W 0 (fun _ => true) held fuel t cs = some x)
    (i : Nat) {ft : TypeId} {off : Nat} (hf : (fs[i]?).map (fun f => (f.type, f.offset)) = some (ft, off)) (h1 : P.cellsOf ft = 1) {v : Value} (hv : cs[off]? = some v) : ∃ n y, DataW.trod enc P W 0 (fun _ => true) held n ft [v] = some y := by
  obtain ⟨f, hf', e⟩ := Option.map_eq_some_iff.1 hf
  clear hf
  have hf := hf'
  clear hf'
  simp only [Prod.mk.injEq] at e
  obtain ⟨rfl, rfl⟩ := e
  obtain ⟨xs, n', _, _, _, hxl, hx⟩ := DataW.trod_struct hu h
  have h2 := hx i f hf
  have hlt : i < xs.length := by rw [hxl]; exact (Array.getElem?_eq_some_iff.1 hf).1
  have hd : (cs.drop f.offset).take 1 = [v] := by
    obtain ⟨hl, he⟩ := List.getElem?_eq_some_iff.1 hv
    rw [List.drop_eq_getElem_cons hl, he]
    rfl
  rw [h1, hd] at h2
  exact ⟨n', xs[i], by rw [h2]; simp [hlt]⟩
/-- A field of several cells. -/
theorem field_part {t : TypeId} {fs : Array Field} {fuel : Nat} {cs : List Value} {x : DataW H × List MemPlace} (hu : P.underlying t = some (.struct fs)) (h : DataW.trod enc P W 0 (fun _ => true) held fuel t cs = some x)
    (i : Nat) {ft : TypeId} {off n : Nat} (hf : (fs[i]?).map (fun f => (f.type, f.offset)) = some (ft, off)) (h1 : P.cellsOf ft = n) : ∃ m y, DataW.trod enc P W 0 (fun _ => true) held m ft ((cs.drop off).take n) = some y := by
  obtain ⟨f, hf', e⟩ := Option.map_eq_some_iff.1 hf
  clear hf
  have hf := hf'
  clear hf'
  simp only [Prod.mk.injEq] at e
  obtain ⟨rfl, rfl⟩ := e
  obtain ⟨xs, n', _, _, _, hxl, hx⟩ := DataW.trod_struct hu h
  have h2 := hx i f hf
  have hlt : i < xs.length := by rw [hxl]; exact (Array.getElem?_eq_some_iff.1 hf).1
  rw [h1] at h2
  exact ⟨n', xs[i], by rw [h2]; simp [hlt]⟩
/-- A slice of numbers that came in. -/
theorem open_nums {t e : TypeId} {k : IntKind} {f : TypeInfo} {fuel : Nat} {v : Value} {x : DataW H × List MemPlace} (ht : P.underlying t = some (.slice e)) (hf : P.info? e = some f) (hsz : f.size = 1) (he : P.underlying e = some (.int k))
    (h : DataW.trod enc P W 0 (fun _ => true) held fuel t [v] = some x) :
    ∃ (p : Option Addr) (l c : Nat) (zs : List Int), v = .slice p l c ∧ l ≤ c ∧ c ≤ maxLen ∧ Rd W 1 p l (zs.map fun n => .int k n) ∧ ∀ n ∈ zs, k.min ≤ n ∧ n ≤ k.max := by
  obtain ⟨p, l, c, zs, rfl, hzl, hlc, hc, hp, hz⟩ := open_elems (R := fun a (n : Int) => W.cell? a = some (.int k n) ∧ k.min ≤ n ∧ n ≤ k.max) ht hf hsz h (fun a cs n y hcl hat htr => by
    obtain ⟨m, rfl, _, hw⟩ := DataW.trod_int he htr
    have := hat 0 (by omega)
    rw [add_zero] at this
    exact ⟨m, by simpa using this, wf_range hw⟩)
  refine ⟨p, l, c, zs, rfl, hlc, hc, ⟨by simp [hzl], hp, fun a e j u hj => ?_⟩, fun n hn => ?_⟩
  · simp only [List.getElem?_map, Option.map_eq_some_iff] at hj
    obtain ⟨n, hn, rfl⟩ := hj
    have := (hz a e j n hn).1
    rwa [Nat.mul_one] at this
  · obtain ⟨j, hj⟩ := List.mem_iff_getElem?.1 hn
    have hl : 0 < l := by have := (List.getElem?_eq_some_iff.1 hj).1; omega
    obtain ⟨a, e⟩ := hp hl
    exact (hz a e j n hj).2
/-- A slice that came in is no longer than a machine reaches. -/
theorem sized_len {H : Type} {enc : TypeId × Value → H} {P : Program} {W : World} {held : Bool} {t e : TypeId} {v : Value} {d : DataW H} {ps : List MemPlace} {ts : List TypeId} {ds : List (DataW H)} {j : Nat} (ht : P.underlying t = some (.slice e))
    (h : DataW.Trod enc P W 0 (fun _ => true) held t v d ps) (hsz : (DataW.weightsEach P ts ds).all (· ≤ reachBytes) = true) (hj : ts[j]? = some t) (hd : ds[j]? = some d) :
    ∀ p l c, v = .slice p l c → l * P.bytesOf e ≤ reachBytes := by
  rintro p l c rfl
  obtain ⟨fuel, h⟩ := h
  rcases open_slice ht h with ⟨hv, _⟩ | ⟨a, len, cap, m, n, D, Pl, hv, hb, hl, hm, hmm, hx, _⟩
  · simp only [Value.cells, List.cons.injEq, and_true, Value.slice.injEq] at hv
    simp [hv.2.1]
  · simp only [Value.cells, List.cons.injEq, and_true, Value.slice.injEq] at hv
    obtain ⟨_, rfl, _⟩ := hv
    simp only [Prod.mk.injEq] at hx
    have := sized_slice hsz hj (by rw [hd, hx.1]) ht
    simp only [List.length_map, List.length_range] at this
    exact Nat.le_trans (Nat.mul_le_mul_right _ (by omega)) this
end
end Go.Sp
