/- append within the room that there is; clear behind the end. No conditions. -/
import Derived.Test.YtjjnbcdcppnllaaSpK
set_option linter.unusedVariables false
set_option linter.unusedSimpArgs false
set_option maxRecDepth 100000
namespace Go.Sp
open Go.RowKit
section
variable {w₀ w : World} {F : HP} {P : Program}
theorem app_room_ok {t e ty : TypeId} {z : Value} {sz bytes : Nat} (T : SliceTy P t e z sz bytes) {g : Nat} {a : Addr} {l c m c2 : Nat} {xs news : List Value} {K : Option Addr → Nat → Nat → World → Prop}
    (h : Sat w₀ (own e sz (some ⟨g, 0, none⟩) l c xs * F) w) (hx : Rd w sz (some a) m news) (h1 : ∀ u ∈ news, u.oneCell' = true) (hroom : l + m ≤ c)
    (hk : ∀ w', Sat w₀ (own e sz (some ⟨g, 0, none⟩) (l + m) c (xs ++ news) * F) w' → K (some ⟨g, 0, none⟩) (l + m) c w') :
    runsS P (Builtin.append_ #[t, t] ty #[.slice (some ⟨g, 0, none⟩) l c, .slice (some a) m c2]) w K := by
  obtain ⟨i, hi, hz, hsz, hby⟩ := T.parts
  subst hsz
  subst hby
  have hrow := h.left.own_row
  have hxl := h.left.own_len
  rcases hrow.2 with ⟨ep, hl⟩ | ⟨g', cap, cur, ep, _, hg, hc, hcm, hcs, htake⟩
  · cases ep
  · cases ep
    have hlen : (xs ++ news).length = (l + m) * i.size := by rw [List.length_append, hxl, hx.1, Nat.add_mul]
    have hfit : l * i.size + news.length ≤ cur.size := by rw [hx.1, hcs, ← Nat.add_mul]; exact Nat.mul_le_mul_right _ hroom
    have hr := run_append_room (P := P) w t ty e i T.under hi g l c cur hg a m c2 news hx.1 (hx.2.2 a rfl) h1 hroom hfit
    refine ⟨_, _, _, _, hr, hk _ ?_⟩
    refine h.own_grown (p' := some ⟨g, 0, none⟩) ⟨hlen, .inr ⟨g, c, _, rfl, Nat.zero_le _, setRow_heap w g cur _ e _ hg, hroom, hcm, ?_, ?_⟩⟩ ⟨rfl, rfl, rfl, by simp, fun k _ hk => setRow_other w g k _ (fun e => hk (by simp [Value.ownBlock, e]))⟩ (.inl rfl)
    · simp only [List.size_toArray, List.length_append, List.length_take, List.length_drop, Array.length_toList]
      omega
    · rw [htake, ← hlen]
      exact List.take_left
theorem clr_ok {t e ty : TypeId} {z : Value} {sz bytes : Nat} (T : SliceTy P t e z sz bytes) {g : Nat} {l c n c2 : Nat} {xs : List Value} {K : World → Prop} (hz1 : ∀ u ∈ z.cells.toList, u.oneCell' = true)
    (h : Sat w₀ (own e sz (some ⟨g, 0, none⟩) l c xs * F) w) (hn : 0 < n) (hroom : l + n ≤ c) (hk : ∀ w', Sat w₀ (own e sz (some ⟨g, 0, none⟩) l c xs * F) w' → K w') :
    clrM P #[t] ty (some ⟨g, l * sz, none⟩) n c2 w K := by
  obtain ⟨i, hi, hz, hsz, hby⟩ := T.parts
  subst hsz
  subst hby
  obtain ⟨n, rfl⟩ : ∃ m, n = m + 1 := ⟨n - 1, by omega⟩
  have hrow := h.left.own_row
  have hxl := h.left.own_len
  have hzl : (zerosOf z (n + 1)).length = (n + 1) * i.size := by simp [zerosOf, Builtin.zeroCells, T.cells]
  rcases hrow.2 with ⟨ep, hl⟩ | ⟨g', cap, cur, ep, _, hg, hc, hcm, hcs, htake⟩
  · cases ep
  · cases ep
    have hfit : l * i.size + (zerosOf z (n + 1)).length ≤ cur.size := by rw [hzl, hcs, ← Nat.add_mul]; exact Nat.mul_le_mul_right _ hroom
    have hst := run_storeCells_at P g (l * i.size) e (zerosOf z (n + 1)) 0 cur w hg (by simpa using hfit) (by
      intro u hu
      simp only [zerosOf, zeros_toList, List.mem_map, List.mem_range] at hu
      obtain ⟨j, hj, rfl⟩ := hu
      apply hz1
      have hpos : 0 < z.cells.size := by rw [T.cells]; exact T.pos
      rw [getElem!_pos z.cells _ (Nat.mod_lt _ hpos)]
      simp)
    simp only [Nat.add_zero] at hst
    have hr : (Builtin.clear_ #[t] ty #[.slice (some ⟨g, l * i.size, none⟩) (n + 1) c2]).run P w = .ok (.tuple #[]) (w.setRow g (cur.toList.take (l * i.size) ++ zerosOf z (n + 1) ++ cur.toList.drop (l * i.size + (zerosOf z (n + 1)).length)).toArray) := by
      simp only [zerosOf] at hst ⊢
      simp [Builtin.clear_, run_underlying T.under, zeroValue, typeInfo, hi, hz, hst]
    refine ⟨_, hr, hk _ ?_⟩
    refine h.own_grown (p' := some ⟨g, 0, none⟩) ⟨hxl, .inr ⟨g, c, _, rfl, Nat.zero_le _, setRow_heap w g cur _ e _ hg, hc, hcm, ?_, ?_⟩⟩ ⟨rfl, rfl, rfl, by simp, fun k _ hk => setRow_other w g k _ (fun e => hk (by simp [Value.ownBlock, e]))⟩ (.inl rfl)
    · simp only [List.size_toArray, List.length_append, List.length_take, List.length_drop, Array.length_toList]
      omega
    · rw [htake, List.append_assoc, ← hxl]
      exact List.take_left
end
end Go.Sp
