/- A store of several cells into a block; an element of an array in memory. No conditions. -/
import Derived.Test.YtjjnbcdcppnllaaSp9
set_option linter.unusedVariables false
set_option linter.unusedSimpArgs false
set_option maxRecDepth 100000
namespace Go.Sp
open Go.RowKit

theorem stA_at {w₀ w : World} {F : HP} {P : Program} {b o n : Nat} {cs vs : Array Value} {t : TypeId} {K : World → Prop} (h : Sat w₀ (blk b cs t * F) w) (hc : o + n ≤ cs.size) (hv : vs.size = n) (h1 : ∀ u ∈ vs.toList, u.oneCell' = true)
    (hk : ∀ w', Sat w₀ (blk b (cs.toList.take o ++ vs.toList ++ cs.toList.drop (o + n)).toArray t * F) w' → K w') : stA P ((⟨b, 0, none⟩ : Addr).add o) n vs w K := by
  rw [add_mk, Nat.zero_add]
  refine ⟨hv, _, run_storeCells_at P b o t vs.toList 0 cs w h.ob (by simp; omega) h1, hk _ ?_⟩
  have hb := h.ob
  have e : (cs.toList.take (o + 0) ++ vs.toList ++ cs.toList.drop (o + 0 + vs.toList.length)).toArray = (cs.toList.take o ++ vs.toList ++ cs.toList.drop (o + n)).toArray := by
    simp [hv]
  rw [e]
  refine h.step rfl rfl rfl (by simp [World.setRow]) ?_
  intro h1 a hw
  refine ⟨fun x => if x = b then some (.cells (cs.toList.take o ++ vs.toList ++ cs.toList.drop (o + n)).toArray t (0, 0)) else none, by simp [Sp.ob], ?_, ?_, ?_⟩
  · intro x ob e
    dsimp only at e
    split at e
    · rename_i e'; subst e'; cases e; exact setRow_heap w x cs _ t _ hb
    · cases e
  · intro x ob e e1
    dsimp only at e
    split at e
    · rename_i e'; subst e'; have a' : h1 x = _ := a; rw [a'] at e1; cases e1
    · cases e
  · intro x ob e1 hx
    have hne : x ≠ b := by rintro rfl; have a' : h1 x = _ := a; rw [a'] at e1; cases e1
    rw [setRow_other w b x _ hne]
    exact hx
theorem idxA_ok {a : Addr} {n : Nat} {i : Int} {sz : Nat} {K : Addr → Prop} (h0 : 0 ≤ i) (h1 : i < (n : Int)) (hk : K (a.add (i.toNat * sz))) : idxA a n i sz K := ⟨⟨h0, h1⟩, hk⟩
end Go.Sp
