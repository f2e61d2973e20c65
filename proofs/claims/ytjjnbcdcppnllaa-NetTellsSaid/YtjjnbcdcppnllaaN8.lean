/- Packets in tables. No conditions. -/
import Derived.Test.YtjjnbcdcppnllaaN6
set_option linter.unusedVariables false
set_option linter.unusedSimpArgs false
set_option maxRecDepth 100000
namespace Go.Proofs.Ytjjnbcdcppnllaa
open Go.Sp Go.RowKit

/-- A packet as it lies in a table. -/
structure PQ where
  x : PK
  p : Option Addr
  l : Nat
  c : Nat
  ip : x.ip.length = 16
def pqF (q : PQ) : List Value := pkL q.x (.slice q.p q.l q.c)
theorem pqF_len (q : PQ) : (pqF q).length = 25 := pk_len q.ip
theorem pqF_one (q : PQ) : ∀ u ∈ pqF q, u.oneCell' = true := fun u hu => pk_one (x := q.x) (p := q.p) (l := q.l) (c := q.c) u (by simpa [pkF, pqF] using hu)
theorem pksTy : SliceTy Try.prog T_sl_api_Packet T_api_Packet (.agg (pkF pk0 (.slice none 0 0))) 25 104 := ⟨by kernel_rfl, by kernel_rfl, rfl, by decide⟩
/-- What they refer to is held. -/
def PQs (F : HP) (qs : List PQ) : Prop := ∀ q ∈ qs, q.l ≤ 1000 ∧ Gives F 36 q.p q.l (q.x.rs.flatMap orC)
theorem PQs.right {F G : HP} {qs : List PQ} (h : PQs F qs) : PQs (G * F) qs := fun q hq => ⟨(h q hq).1, Gives.right (h q hq).2⟩
theorem PQs.snoc {F : HP} {qs : List PQ} {q : PQ} (h : PQs F qs) (hl : q.l ≤ 1000) (hg : Gives F 36 q.p q.l (q.x.rs.flatMap orC)) : PQs F (qs ++ [q]) := fun z hz => by
  rcases List.mem_append.1 hz with hz | hz
  · exact h z hz
  · rw [List.mem_singleton] at hz; subst hz; exact ⟨hl, hg⟩
section
variable {w₀ w : World} {F : HP}
theorem pq_ldA {p : Option Addr} {l c g i : Nat} {qs : List PQ} {q : PQ} {K : Array Value → Prop} (h : Sat w₀ (tab T_api_Packet 25 pqF p l c qs) w) (hp : p = some ⟨g, 0, none⟩) (hq : qs[i]? = some q) (hk : K (pkF q.x (.slice q.p q.l q.c))) : ldA (⟨g, i * 25, none⟩ : Addr) 25 w K :=
  tab_ldA0 pqF_len h hp hq hk
theorem pq_app {k l c : Nat} {p : Option Addr} {qs : List PQ} {q : PQ} {K : Option Addr → Nat → Nat → World → Prop} (h : Sat w₀ (blk k (pkF q.x (.slice q.p q.l q.c)) T_api_Packet * (tab T_api_Packet 25 pqF p l c qs * F)) w) (hl : l ≤ 100000)
    (hk : ∀ p' c' w', Sat w₀ (tab T_api_Packet 25 pqF p' (l + 1) c' (qs ++ [q]) * F) w' → K p' (l + 1) c' w') :
    runsS Try.prog (Builtin.append_ #[T_sl_api_Packet, T_sl_api_Packet] T_sl_api_Packet #[.slice p l c, .slice (some ⟨k, 0, none⟩) 1 1]) w K :=
  tab_app pksTy pqF_len (by decide) pqF_one (x := q) h rfl (by simp only [maxLen]; omega) (by omega) hk
end
end Go.Proofs.Ytjjnbcdcppnllaa
