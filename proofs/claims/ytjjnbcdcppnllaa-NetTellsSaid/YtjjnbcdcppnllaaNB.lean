/- The document's net: Pick exactly, what it is, New. No conditions. -/
import Derived.Test.YtjjnbcdcppnllaaN8
set_option linter.unusedVariables false
set_option linter.unusedSimpArgs false
set_option maxRecDepth 100000
namespace Go.Proofs.Ytjjnbcdcppnllaa
open Go.Sp Go.RowKit

theorem pick_at {i : Int} {n : Nat} (h0 : -9223372036854775808 ≤ i) (h1 : i ≤ 9223372036854775807) (hn : 0 < n) (h2 : n ≤ 9223372036854775807) :
    PureCall Try.prog fn_tenonref01_Pick #[.int .i64 i, .int .i64 n] (.int .i64 (pkI i n)) := by
  intro w
  have hp := pkI_range (i := i) hn
  apply tenonref01_Pick_call
  unfold tenonref01_Pick
  refine br_false (by simp; omega) ⟨by omega, br_dec (fun hlt => arith_i64 ?_ ?_ ⟨?_, rfl⟩) (fun hge => ⟨?_, rfl⟩)⟩
  · unfold pkI at hp; rw [if_pos hlt] at hp; omega
  · unfold pkI at hp; rw [if_pos hlt] at hp; omega
  · rw [pkI, if_pos hlt]
  · rw [pkI, if_neg hge]

/-- The document's net. -/
structure RN where
  most : Int
  row : List PQ
  sent : List PQ
  came : List PQ
def rA (most : Int) (p : Option Addr) (l c : Nat) (p2 : Option Addr) (l2 c2 : Nat) (p3 : Option Addr) (l3 c3 : Nat) : Array Value := #[.int .i64 most, .slice p l c, .slice p2 l2 c2, .slice p3 l3 c3]
def pqT (p : Option Addr) (l c : Nat) (qs : List PQ) : HP := tab T_api_Packet 25 pqF p l c qs
def RNet (r : Nat) (X : RN) : HP := ex fun p => ex fun c => ex fun p2 => ex fun c2 => ex fun p3 => ex fun c3 =>
  (blk r (rA X.most p X.row.length c p2 X.sent.length c2 p3 X.came.length c3) T_tenonref23_Net * (pqT p X.row.length c X.row * (pqT p2 X.sent.length c2 X.sent * pqT p3 X.came.length c3 X.came)))
def sqQ (q : PQ) (n : Int) : PQ := ⟨sqP q.x n, q.p, q.l, q.c, q.ip⟩
section
variable {w₀ w : World} {F : HP} {r : Nat} {X : RN}
theorem RNet.open_ (h : Sat w₀ (RNet r X * F) w) : ∃ p c p2 c2 p3 c3, Sat w₀ (blk r (rA X.most p X.row.length c p2 X.sent.length c2 p3 X.came.length c3) T_tenonref23_Net * (pqT p X.row.length c X.row * (pqT p2 X.sent.length c2 X.sent * (pqT p3 X.came.length c3 X.came * F)))) w := by
  obtain ⟨p, h⟩ := Sat.ex h
  obtain ⟨c, h⟩ := Sat.ex h
  obtain ⟨p2, h⟩ := Sat.ex h
  obtain ⟨c2, h⟩ := Sat.ex h
  obtain ⟨p3, h⟩ := Sat.ex h
  obtain ⟨c3, h⟩ := Sat.ex h
  exact ⟨p, c, p2, c2, p3, c3, h.perm (by ac_rfl)⟩
theorem RNet.shut {p p2 p3 : Option Addr} {l c l2 c2 l3 c3 : Nat} (h : Sat w₀ (blk r (rA X.most p l c p2 l2 c2 p3 l3 c3) T_tenonref23_Net * (pqT p l c X.row * (pqT p2 l2 c2 X.sent * (pqT p3 l3 c3 X.came * F)))) w)
    (e1 : l = X.row.length) (e2 : l2 = X.sent.length) (e3 : l3 = X.came.length) : Sat w₀ (RNet r X * F) w := by
  subst e1 e2 e3
  exact Sat.to_ex p (Sat.to_ex c (Sat.to_ex p2 (Sat.to_ex c2 (Sat.to_ex p3 (Sat.to_ex c3 (h.perm (by ac_rfl)))))))
theorem ref_New_ok {most : Int} (h : Sat w₀ F w) (h0 : 1 ≤ most) (h1 : most ≤ 65536) : call Try.prog fn_tenonref23_New #[.int .i64 most] w fun v w' => ∃ r, v = .pointer (some ⟨r, 0, none⟩) ∧ Sat w₀ (RNet r ⟨most, [], [], []⟩ * F) w' := by
  apply tenonref23_New_call
  unfold tenonref23_New
  refine br_false (by simp; omega) <| br_false (by simp; omega) <| new_ok h fun k1 w1 h1 => ⟨k1, rfl, ?_⟩
  refine RNet.shut (X := ⟨most, [], [], []⟩) (p := none) (l := 0) (c := 0) (p2 := none) (l2 := 0) (c2 := 0) (p3 := none) (l3 := 0) (c3 := 0) ?_ rfl rfl rfl
  exact (tab_nil T_api_Packet 25 pqF (tab_nil T_api_Packet 25 pqF (tab_nil T_api_Packet 25 pqF h1))).perm (by
    show pqT none 0 0 [] * (pqT none 0 0 [] * (pqT none 0 0 [] * (blk k1 (rA most none 0 0 none 0 0 none 0 0) T_tenonref23_Net * F))) = _
    ac_rfl)
theorem ref_New_no {most : Int} (h : most < 1 ∨ most > 65536) : PureCall Try.prog fn_tenonref23_New #[.int .i64 most] (.pointer none) := by
  intro w
  apply tenonref23_New_call
  unfold tenonref23_New
  exact br_dec (fun _ => ⟨rfl, rfl⟩) fun _ => br_true (by simp; omega) ⟨rfl, rfl⟩
end
end Go.Proofs.Ytjjnbcdcppnllaa
