
/- Contracts of layer 5 (wire): what the statements use beside. No conditions. -/
import Derived.Test.YtjjnbcdcppnllaaW1
set_option linter.unusedVariables false
set_option linter.unusedSimpArgs false
set_option maxRecDepth 100000
namespace Go.Proofs.Ytjjnbcdcppnllaa
open Go.Sp Go.RowKit

theorem own_more {t : TypeId} {sz : Nat} {p : Option Addr} {l c : Nat} {xs : List Value} {w₀ w : World} {F : HP} (h : Sat w₀ (own t sz p l c xs * F) w) (hl : 0 < l) : ∃ g, p = some ⟨g, 0, none⟩ ∧ l ≤ c := by
  obtain ⟨k, hk, hx, a⟩ := h.left.heap
  rcases a with ⟨_, rfl, _⟩ | ⟨g, cur, rfl, _, hc, _⟩
  · omega
  · exact ⟨g, rfl, hc⟩

/-- Bytes with marks behind them. -/
def Lnt (p : Option Addr) (n c : Nat) (bs : List Int) : HP := own T_uint8 1 p (n + 4) c (by8 (bs ++ [90, 91, 92, 93]))
theorem Lnt.gives {p : Option Addr} {n c : Nat} {bs : List Int} (hn : bs.length = n) : Gives (Lnt p n c bs) 1 p n (by8 bs) := by
  intro w₀ w hs
  have h := hs.rd
  refine ⟨by rw [by8_length]; omega, fun _ => h.2.1 (by omega), fun a e j u hj => ?_⟩
  refine h.2.2 a e j u ?_
  rw [by8_append, List.getElem?_append_left (by rw [by8_length]; have := (List.getElem?_eq_some_iff.1 hj).1; rw [by8_length] at this; omega)]
  exact hj

end Go.Proofs.Ytjjnbcdcppnllaa
