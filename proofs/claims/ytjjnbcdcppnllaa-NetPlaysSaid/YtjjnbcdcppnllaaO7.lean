
/- ObjrefBack: the walk. No conditions. -/
import Derived.Test.YtjjnbcdcppnllaaO6
set_option linter.unusedVariables false
set_option linter.unusedSimpArgs false
set_option maxRecDepth 100000
namespace Go.Proofs.Ytjjnbcdcppnllaa
open Go.Sp Go.RowKit

theorem xor_u8 (x y : Nat) (hx : x < 2 ^ 8) (hy : y < 2 ^ 8) : bitw .xor .u8 (x : Int) (y : Int) = ((x ^^^ y : Nat) : Int) := by
  have e : ∀ z : Nat, z < 2 ^ 8 → (BitVec.ofInt 8 (z : Int)).toNat = z := by
    intro z hz
    rw [BitVec.ofInt_natCast, BitVec.toNat_ofNat, Nat.mod_eq_of_lt hz]
  have hor : (x ^^^ y) < 2 ^ 8 := Nat.xor_lt_two_pow hx hy
  show IntKind.u8.wrap ((BitVec.ofInt 8 (x : Int) ^^^ BitVec.ofInt 8 (y : Int)).toNat : Int) = _
  rw [BitVec.toNat_xor, e x hx, e y hy, wrap_in]
  · simp [IntKind.min, IntKind.signed]
  · simp only [IntKind.max, IntKind.signed, IntKind.bits]
    have : ((x ^^^ y : Nat) : Int) < 2 ^ 8 := by exact_mod_cast hor
    simp only [Bool.false_eq_true, if_false]
    omega
theorem xor_facts {a b : Int} (ha : 0 ≤ a ∧ a ≤ 255) (hb : 0 ≤ b ∧ b ≤ 255) : 0 ≤ bitw .xor .u8 a b ∧ bitw .xor .u8 a b ≤ 255 ∧ (bitw .xor .u8 a b = a ↔ b = 0) := by
  obtain ⟨x, rfl⟩ : ∃ n : Nat, a = n := ⟨a.toNat, by omega⟩
  obtain ⟨y, rfl⟩ : ∃ n : Nat, b = n := ⟨b.toNat, by omega⟩
  rw [xor_u8 x y (by omega) (by omega)]
  have hor : (x ^^^ y) < 2 ^ 8 := Nat.xor_lt_two_pow (by omega) (by omega)
  refine ⟨by omega, by omega, fun h => ?_, fun h => ?_⟩
  · have h : x ^^^ y = x := by omega
    have : x ^^^ (x ^^^ y) = 0 := by rw [h, Nat.xor_self]
    rw [← Nat.xor_assoc, Nat.xor_self, Nat.zero_xor] at this
    omega
  · have h : y = 0 := by omega
    rw [h, Nat.xor_zero]
theorem encL_by {x : ORef} (hx : OIn x) : ∀ b ∈ encL x, 0 ≤ b ∧ b ≤ 255 := by
  intro b hb
  rw [encL_eq] at hb
  simp only [List.mem_append] at hb
  rcases hb with hb | hb | hb | hb | hb | hb | hb
  · exact lay_range _ _ b hb
  · exact lay_range _ _ b hb
  · exact lay_range _ _ b hb
  · exact lay_range _ _ b hb
  · exact lay_range _ _ b hb
  · exact lay_range _ _ b hb
  · exact hx.by_ b hb
theorem decR_encL {x : ORef} (hx : OIn x) (hr : rightB x = true) : decR (encL x) = (x, 0) := by
  have hL := encL_length hx
  rw [decR, if_neg (by omega), okD_iff (by omega) (encL_by hx), (decX_encL hx).1, hr]
  simp
theorem decR_turned {x : ORef} (hx : OIn x) {bs : List Int} (hl : bs.length = 64) (hr : ∀ b ∈ bs, 0 ≤ b ∧ b ≤ 255) (hne : bs ≠ encL x) : decR bs = (noX, 5) ∨ ((decR bs).2 = 0 ∧ (decR bs).1 ≠ x) := by
  rw [decR, if_neg (by omega)]
  cases ho : okD bs with
  | false => exact .inl rfl
  | true =>
    rw [okD_iff (by omega) hr] at ho
    simp only [Bool.and_eq_true, decide_eq_true_eq] at ho
    refine .inr ⟨rfl, fun e => hne ?_⟩
    have e : decX bs = x := e
    rw [← e]
    exact ho.2.symm
theorem by8_set (bs : List Int) (i : Nat) (b : Int) : (by8 bs).set i (.int .u8 b) = by8 (bs.set i b) := by simp [by8, List.map_set]
end Go.Proofs.Ytjjnbcdcppnllaa
