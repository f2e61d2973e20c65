/- NetOnce: the walk. No conditions. -/
import Derived.Test.YtjjnbcdcppnllaaN8
set_option linter.unusedVariables false
set_option linter.unusedSimpArgs false
set_option maxRecDepth 100000
namespace Go.Proofs.Ytjjnbcdcppnllaa
open Go.Sp Go.RowKit

theorem delM_no {M : NM} {i : Int} (h : (delM' M i).2.2.2 ≠ 0) : (delM' M i).1 = M ∧ (delM' M i).2.2.1 = false := by
  by_cases he : M.row = []
  · rw [delM', loseM_none he]; exact ⟨rfl, rfl⟩
  · obtain ⟨x, hx, hlo⟩ := loseM_some (i := i) he
    rw [delM', hlo] at h
    exact absurd rfl h
/-- What is sent, what came. -/
structure SC (W : World) (b : Nat) (n : Int) (ps qs : List PQ) (M : NM) (ST : HP) : Prop where
  oi : OI M (ps.map (·.x)) (qs.map (·.x))
  ok : NOk M n
  gp : PQs (ST * old W) ps
  gq : PQs (ST * old W) qs
def SH (W : World) (b : Nat) (p : Option Addr) (lp c : Nat) (q : Option Addr) (lq d : Nat) (ps qs : List PQ) (M : NM) (ST X : HP) (w : World) : Prop :=
  Sat W (tab T_api_Packet 25 pqF p lp c ps * (tab T_api_Packet 25 pqF q lq d qs * (NetH b M * (X * (ST * old W))))) w
def PI (W : World) (b : Nat) (p : Option Addr) (lp c : Nat) (q : Option Addr) (lq d : Nat) (n : Int) (w : World) (m : Nat) : Prop :=
  ∃ ps qs M ST, 0 ≤ n ∧ n ≤ 150 ∧ m = (150 - n).toNat ∧ lp = ps.length ∧ lq = qs.length ∧ (ps.length : Int) ≤ n ∧ SC W b n ps qs M ST ∧ SH W b p lp c q lq d ps qs M ST emp w
section
variable {W : World} {b : Nat} {n : Int} {ps qs : List PQ} {M : NM} {ST : HP}
/-- One comes: what is known then. -/
theorem SC.del {i : Int} {G : HP} {m : Nat} {q : Option Addr} {d : Nat} (h : SC W b n ps qs M ST) (he : (delM' M i).2.2.2 = 0) (hm : m ≤ 1) (hG : Gives G 36 q m ((delM' M i).2.1.rs.flatMap orC)) :
    ((delM' M i).2.2.1 = true → SC W b n ps (qs ++ [⟨(delM' M i).2.1, q, m, d, h.ok.del.2.1.ip⟩]) (delM' M i).1 (G * ST)) ∧ ((delM' M i).2.2.1 = false → SC W b n ps qs (delM' M i).1 (G * ST)) := by
  have ho := h.oi.del (i := i) he
  have hk := h.ok.del (i := i)
  have e : (G * ST) * old W = G * (ST * old W) := sep_assoc _ _ _
  refine ⟨fun hf => ?_, fun hf => ?_⟩
  · rw [if_pos hf] at ho
    refine ⟨by rw [List.map_append]; exact ho, hk.1, by rw [e]; exact h.gp.right, ?_⟩
    rw [e]
    exact h.gq.right.snoc (by dsimp only; omega) (Gives.left hG)
  · rw [if_neg (by simp [hf])] at ho
    exact ⟨ho, hk.1, by rw [e]; exact h.gp.right, by rw [e]; exact h.gq.right⟩
theorem SC.len (h : SC W b n ps qs M ST) : qs.length ≤ ps.length := by
  have := h.oi.le
  simpa using this
end
end Go.Proofs.Ytjjnbcdcppnllaa
