/- Structs in blocks and in tables: loads and stores of several cells. No conditions. -/
import Derived.Test.YtjjnbcdcppnllaaSpA
set_option linter.unusedVariables false
set_option linter.unusedSimpArgs false
set_option maxRecDepth 100000
namespace Go.Sp
open Go.RowKit

section
variable {w₀ w : World} {F : HP} {t : TypeId} {sz : Nat} {p : Option Addr} {l c : Nat} {α : Type} {f : α → List Value} {ys : List α}
/-- Several cells of a block. -/
theorem ldA_blk {k o n : Nat} {cs : Array Value} {fr : Nat × Nat} {K : Array Value → Prop} (h : Sat w₀ (ob k (.cells cs t fr) * F) w) (ho : o + n ≤ cs.size) (hk : K (cs.extract o (o + n))) : ldA ((⟨k, 0, none⟩ : Addr).add o) n w K := by
  refine ldA_ok (by simp; omega) (fun i hi => ?_) hk
  rw [add_mk, add_mk, Nat.zero_add]
  have hb := h.ob
  rw [Array.getElem?_extract]
  have e : min (o + n) cs.size - o = n := by omega
  rw [e, if_pos hi]
  simp [World.cell?, hb]
theorem ldA_blk0 {k n : Nat} {cs : Array Value} {fr : Nat × Nat} {K : Array Value → Prop} (h : Sat w₀ (ob k (.cells cs t fr) * F) w) (hn : cs.size = n) (hk : K cs) : ldA (⟨k, 0, none⟩ : Addr) n w K := by
  subst hn
  refine ldA_ok rfl (fun i hi => ?_) hk
  rw [add_mk, Nat.zero_add]
  have hb := h.ob
  simp [World.cell?, hb]
theorem tab_ldA (hf : ∀ y, (f y).length = sz) {g i o n : Nat} {y : α} {vs : List Value} {K : Array Value → Prop} (h : Sat w₀ (tab t sz f p l c ys) w) (hp : p = some ⟨g, 0, none⟩) (hy : ys[i]? = some y) (ho : o + n ≤ sz)
    (hv : ((f y).drop o).take n = vs) (hk : K vs.toArray) : ldA ((⟨g, i * sz, none⟩ : Addr).add o) n w K := by
  subst hv
  have hl := hf y
  refine ldA_ok (by simp; omega) (fun j hj => ?_) hk
  have e : (f y)[o + j]? = some ((f y)[o + j]'(by omega)) := by simp [show o + j < (f y).length by omega]
  rw [add_add, tab_cell hf h hp hy (by omega) e]
  rw [List.getElem?_toArray, List.getElem?_take, if_pos hj, List.getElem?_drop, e]
theorem tab_ldA0 (hf : ∀ y, (f y).length = sz) {g i : Nat} {y : α} {K : Array Value → Prop} (h : Sat w₀ (tab t sz f p l c ys) w) (hp : p = some ⟨g, 0, none⟩) (hy : ys[i]? = some y) (hk : K (f y).toArray) :
    ldA (⟨g, i * sz, none⟩ : Addr) sz w K := by
  have := tab_ldA hf (o := 0) (n := sz) (K := K) h hp hy (by omega) rfl (by rw [List.drop_zero, List.take_of_length_le (by rw [hf]; exact Nat.le_refl _)]; exact hk)
  rwa [Sp.add_zero] at this
theorem stA_own {P : Program} {g j n : Nat} {xs : List Value} {vs : Array Value} {K : World → Prop} (h : Sat w₀ (own t sz (some ⟨g, 0, none⟩) l c xs * F) w) (hj : j + n ≤ xs.length) (hv : vs.size = n) (h1 : ∀ u ∈ vs.toList, u.oneCell' = true)
    (hk : ∀ w', Sat w₀ (own t sz (some ⟨g, 0, none⟩) l c (xs.take j ++ vs.toList ++ xs.drop (j + n)) * F) w' → K w') : stA P ⟨g, j, none⟩ n vs w K := by
  have hxs := h.left.own_len
  obtain ⟨cur, h2, hle, hcm, hcs, htk⟩ : ∃ cur, Sat w₀ (blk g cur t * F) w ∧ l ≤ c ∧ c ≤ maxLen ∧ cur.size = c * sz ∧ cur.toList.take (l * sz) = xs := by
    obtain ⟨k, hk, h1, h2, ha, s1, s2, ⟨_, a⟩, b⟩ := h.heap
    rcases a with ⟨e, _, _⟩ | ⟨g', cur, e, hg, h3, h4, h5, h6⟩
    · cases e
    · cases e
      exact ⟨cur, ⟨h.os, h.tape, h.output, h.size, k, hk, h1, h2, ha, s1, s2, hg, b⟩, h3, h4, h5, h6⟩
  have hlc : l * sz ≤ c * sz := Nat.mul_le_mul_right _ hle
  have hst := stA_at (P := P) (o := j) (n := n) (K := K) h2 (by rw [hcs]; omega) hv h1 fun w' h3 => hk w' (h3.imp fun k a => ⟨?_, .inr ⟨g, _, rfl, a, hle, hcm, ?_, ?_⟩⟩)
  · rw [add_mk, Nat.zero_add] at hst
    exact hst
  · simp [hxs, hv]
    omega
  · simp [hv]
    omega
  · have hcl : cur.toList.length = c * sz := by simp [hcs]
    have hvl : vs.toList.length = n := by simp [hv]
    show (cur.toList.take j ++ vs.toList ++ cur.toList.drop (j + n)).take (l * sz) = _
    rw [← htk]
    rw [List.take_take, Nat.min_eq_left (by omega), List.take_append, List.take_of_length_le (l := cur.toList.take j ++ vs.toList) (by simp only [List.length_append, List.length_take, hcl, hvl]; omega)]
    congr 1
    rw [List.drop_take]
    congr 1
    simp only [List.length_append, List.length_take, hcl, hvl]
    omega
theorem flatSetA (hf : ∀ y, (f y).length = sz) {y' : α} {o n : Nat} {vs : List Value} : ∀ {ys : List α} {i : Nat} {y : α}, ys[i]? = some y → o + n ≤ sz → f y' = (f y).take o ++ vs ++ (f y).drop (o + n) → vs.length = n →
    (ys.flatMap f).take (i * sz + o) ++ vs ++ (ys.flatMap f).drop (i * sz + o + n) = (ys.set i y').flatMap f
  | [], i, y, h, _, _, _ => by simp at h
  | z :: ys, 0, y, h, ho, he, hv => by
    simp only [List.getElem?_cons_zero, Option.some.injEq] at h
    subst h
    have hz := hf z
    rw [List.set_cons_zero, List.flatMap_cons, List.flatMap_cons, he, Nat.zero_mul, Nat.zero_add, List.take_append, List.drop_append]
    have e1 : o - (f z).length = 0 := by omega
    have e2 : o + n - (f z).length = 0 := by omega
    rw [e1, e2, List.take_zero, List.append_nil, List.drop_zero]
    simp only [List.append_assoc]
  | z :: ys, i + 1, y, h, ho, he, hv => by
    have hz := hf z
    rw [List.set_cons_succ, List.flatMap_cons, List.flatMap_cons, ← flatSetA hf (by simpa using h) ho he hv, List.take_append, List.drop_append, Nat.add_mul, Nat.one_mul]
    have e1 : i * sz + sz + o - (f z).length = i * sz + o := by omega
    have e2 : i * sz + sz + o + n - (f z).length = i * sz + o + n := by omega
    rw [e1, e2, List.take_of_length_le (l := f z) (by omega), List.drop_of_length_le (l := f z) (by omega), List.nil_append]
    simp only [List.append_assoc]
theorem tab_stA {P : Program} (hf : ∀ y, (f y).length = sz) {g i o n : Nat} {y y' : α} {vs : Array Value} {K : World → Prop} (h : Sat w₀ (tab t sz f p l c ys * F) w) (hp : p = some ⟨g, 0, none⟩) (hy : ys[i]? = some y) (ho : o + n ≤ sz)
    (hv : vs.size = n) (h1 : ∀ u ∈ vs.toList, u.oneCell' = true) (he : f y' = (f y).take o ++ vs.toList ++ (f y).drop (o + n))
    (hk : ∀ w', Sat w₀ (tab t sz f p l c (ys.set i y') * F) w' → K w') : stA P ((⟨g, i * sz, none⟩ : Addr).add o) n vs w K := by
  subst hp
  have hlt := (List.getElem?_eq_some_iff.1 hy).1
  have e : (⟨g, i * sz, none⟩ : Addr).add o = ⟨g, i * sz + o, none⟩ := by rw [add_mk]
  rw [e]
  have hm : i * sz + sz ≤ ys.length * sz := by rw [← Nat.succ_mul]; exact Nat.mul_le_mul_right _ hlt
  refine stA_own (h : Sat w₀ (own t sz _ l c (ys.flatMap f) * F) w) (by rw [flatLen hf]; omega) hv h1 fun w' h' => hk w' ?_
  rw [flatSetA hf hy ho he (by simp [hv])] at h'
  exact h'
/-- A cell of a struct in a block. -/
theorem cell_blk {k i : Nat} {cs : Array Value} {v : Value} {fr : Nat × Nat} (h : Sat w₀ (ob k (.cells cs t fr) * F) w) (hv : cs[i]? = some v) : w.cell? ((⟨k, 0, none⟩ : Addr).add i) = some v := by
  rw [add_mk, Nat.zero_add]
  simp [World.cell?, h.ob, hv]
theorem keepS_blk {k o : Nat} {cs : Array Value} {vs : Array Value} {fr : Nat × Nat} {X : Prop} (h : Sat w₀ (ob k (.cells cs t fr) * F) w) (hv : ∀ i, i < vs.size → cs[o + i]? = vs[i]?) (hX : X) : keepS (cellsOf ((⟨k, 0, none⟩ : Addr).add o) vs) w X := by
  have h1 : ∀ q ∈ cellsOf ((⟨k, 0, none⟩ : Addr).add o) vs, w.cell? q.1 = some q.2 := by
    refine mem_cellsOf.2 fun j hj => ?_
    rw [add_mk, add_mk, Nat.zero_add]
    rw [← hv j hj]
    simp [World.cell?, h.ob]
  revert h1
  generalize cellsOf ((⟨k, 0, none⟩ : Addr).add o) vs = S
  intro h1
  induction S with
  | nil => exact hX
  | cons q S ih => exact ⟨h1 q (.head _), ih fun r hr => h1 r (.tail _ hr)⟩
theorem keepS_blk0 {k : Nat} {cs : Array Value} {fr : Nat × Nat} {X : Prop} (h : Sat w₀ (ob k (.cells cs t fr) * F) w) (hX : X) : keepS (cellsOf (⟨k, 0, none⟩ : Addr) cs) w X := by
  have := keepS_blk (o := 0) (vs := cs) h (fun i _ => by rw [Nat.zero_add]) hX
  rwa [Sp.add_zero] at this
/-- Appending one struct to a table that is its holder's own. -/
theorem tab_mem (h1 : ∀ y, ∀ u ∈ f y, u.oneCell' = true) : ∀ u ∈ ys.flatMap f, u.oneCell' = true := by
  intro u hu
  obtain ⟨y, _, hu⟩ := List.mem_flatMap.1 hu
  exact h1 y u hu
/-- A table out of another one, appended to what is its holder's own. -/
theorem tab_more {P : Program} {st ty : TypeId} {z : Value} {bytes : Nat} (T : SliceTy P st t z sz bytes) (hf : ∀ y, (f y).length = sz) (h1 : ∀ y, ∀ u ∈ f y, u.oneCell' = true) {q : Option Addr} {m d : Nat} {zs : List α} {K : Option Addr → Nat → Nat → World → Prop}
    (h : Sat w₀ (tab t sz f p l c ys * F) w) (hx : Rd w sz q m (zs.flatMap f)) (h63 : l + m ≤ maxLen) (hb : (l + m) * bytes ≤ 140737488355328)
    (hk : ∀ p' c' w', Sat w₀ (tab t sz f p' (l + m) c' (ys ++ zs) * F) w' → K p' (l + m) c' w') :
    runsS P (Builtin.append_ #[st, st] ty #[.slice p l c, .slice q m d]) w K := by
  refine app_ok T (h : Sat w₀ (own t sz p l c (ys.flatMap f) * F) w) hx (tab_mem h1) h63 hb fun p' c' w' h' => hk p' c' w' ?_
  rw [tab, List.flatMap_append]
  exact h'
end
end Go.Sp
