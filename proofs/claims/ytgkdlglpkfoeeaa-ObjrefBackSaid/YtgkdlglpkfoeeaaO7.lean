/- ObjrefBack: the walk. No conditions. -/
import Derived.Test.YtgkdlglpkfoeeaaO6
set_option linter.unusedVariables false
set_option linter.unusedSimpArgs false
namespace Go.Proofs.Ytgkdlglpkfoeeaa
open Go.Sp Go.RowKit

theorem xor_u8 (x y : Nat) (hx : x < 2 ^ 8) (hy : y < 2 ^ 8) : bitw .xor .u8 (x : Int) (y : Int) = ((x ^^^ y : Nat) : Int) := by
  have e : ∀ z : Nat, z < 2 ^ 8 → (BitVec.ofInt 8 (z : Int)).toNat = z := by
    intro z hz
    rw [BitVec.ofInt_natCast, BitVec.toNat_ofNat, Nat.mod_eq_of_lt hz]
  have hor : (x ^^^ y) < 2 ^ 8 := Nat.xor_lt_two_pow hx hy
  show IntKind.u8.wrap ((BitVec.ofInt 8 (x : Int) ^^^ BitVec.ofInt 8 (y : Int)).toNat : Int) = _
  rw [BitVec.toNat_xor, e x hx, e y hy, wrap_in]
  · simp [IntKind.min, IntKind.signed]
  · simp only [IntKind.max, IntKind.signed, IntKind.bits]
    have : ((x ^^^ y : Nat) : Int) < 2 ^ 8 := by exact_mod_cast hor
    simp only [Bool.false_eq_true, if_false]
    omega
theorem xor_facts {a b : Int} (ha : 0 ≤ a ∧ a ≤ 255) (hb : 0 ≤ b ∧ b ≤ 255) : 0 ≤ bitw .xor .u8 a b ∧ bitw .xor .u8 a b ≤ 255 ∧ (bitw .xor .u8 a b = a ↔ b = 0) := by
  obtain ⟨x, rfl⟩ : ∃ n : Nat, a = n := ⟨a.toNat, by omega⟩
  obtain ⟨y, rfl⟩ : ∃ n : Nat, b = n := ⟨b.toNat, by omega⟩
  rw [xor_u8 x y (by omega) (by omega)]
  have hor : (x ^^^ y) < 2 ^ 8 := Nat.xor_lt_two_pow (by omega) (by omega)
  refine ⟨by omega, by omega, fun h => ?_, fun h => ?_⟩
  · have h : x ^^^ y = x := by omega
    have : x ^^^ (x ^^^ y) = 0 := by rw [h, Nat.xor_self]
    rw [← Nat.xor_assoc, Nat.xor_self, Nat.zero_xor] at this
    omega
  · have h : y = 0 := by omega
    rw [h, Nat.xor_zero]
theorem encL_by {x : ORef} (hx : OIn x) : ∀ b ∈ encL x, 0 ≤ b ∧ b ≤ 255 := by
  intro b hb
  rw [encL_eq] at hb
  simp only [List.mem_append] at hb
  rcases hb with hb | hb | hb | hb | hb | hb | hb
  · exact lay_range _ _ b hb
  · exact lay_range _ _ b hb
  · exact lay_range _ _ b hb
  · exact lay_range _ _ b hb
  · exact lay_range _ _ b hb
  · exact lay_range _ _ b hb
  · exact hx.by_ b hb
theorem decR_encL {x : ORef} (hx : OIn x) (hr : rightB x = true) : decR (encL x) = (x, 0) := by
  have hL := encL_length hx
  rw [decR, if_neg (by omega), okD_iff (by omega) (encL_by hx), (decX_encL hx).1, hr]
  simp
theorem decR_turned {x : ORef} (hx : OIn x) {bs : List Int} (hl : bs.length = 64) (hr : ∀ b ∈ bs, 0 ≤ b ∧ b ≤ 255) (hne : bs ≠ encL x) : decR bs = (noX, 5) ∨ ((decR bs).2 = 0 ∧ (decR bs).1 ≠ x) := by
  rw [decR, if_neg (by omega)]
  cases ho : okD bs with
  | false => exact .inl rfl
  | true =>
    rw [okD_iff (by omega) hr] at ho
    simp only [Bool.and_eq_true, decide_eq_true_eq] at ho
    refine .inr ⟨rfl, fun e => hne ?_⟩
    have e : decX bs = x := e
    rw [← e]
    exact ho.2.symm
theorem by8_set (bs : List Int) (i : Nat) (b : Int) : (by8 bs).set i (.int .u8 b) = by8 (bs.set i b) := by simp [by8, List.map_set]
theorem ObjrefBack_walk {W : World} {x : ORef} {at' by' : Int} (hx : OIn x) (ha : -9223372036854775808 ≤ at' ∧ at' ≤ 9223372036854775807) (hb : 0 ≤ by' ∧ by' ≤ 255) :
    call Try.prog fn_tenonlaw07_ObjrefBack #[.agg (orF x), .int .i64 at', .int .u8 by'] W fun v w' => v = .bool true ∧ Below W.heap.size W w' := by
  apply tenonlaw07_ObjrefBack_call
  unfold tenonlaw07_ObjrefBack
  rw [← orF_noX]
  have done : ∀ {w F}, Sat W (F * old W) w → call Try.prog fn_tenonlaw07_awake #[] w fun v w' => asB v fun b => (Value.bool b) = .bool true ∧ Below W.heap.size W w' := by
    intro w F h
    refine call_mono (tenonlaw07_awake_ok h) ?_
    rintro _ w2 ⟨rfl, h2⟩
    exact asB_ok ⟨rfl, h2.right.below'⟩
  refine new_ok (Sat.start W) fun k w1 h1 => ldO h1 hx ?_
  cases hr : rightB x with
  | false =>
    refine call_mono (objref_Encode_no h1 hx hr) ?_
    rintro _ w2 ⟨rfl, h2⟩
    refine ⟨_, _, _, _, rfl, br_true rfl <| ldO h2 hx <| call_mono (objref_Check_ok h2 hx) ?_⟩
    rw [hr]
    rintro _ w4 ⟨rfl, h4⟩
    exact asI_ok <| br_true rfl <| done h4
  | true =>
    refine call_mono (objref_Encode_ok h1 hx hr) ?_
    rintro _ w2 ⟨q, d, rfl, h2⟩
    have hB := encL_by hx
    have hL := encL_length hx
    refine ⟨_, _, _, _, rfl, br_false rfl <| call_mono (objref_Decode_ok h2 (Gives.left Gives.own) (by omega) hB) ?_⟩
    rw [decR_encL hx hr]
    rintro _ w3 ⟨rfl, h3⟩
    refine ⟨_, _, rfl, new_ok h3 fun k14 w4 h4 => stA_ok h4 (orF_size noX_in) (orF_size hx) orF_one fun w5 h5 => br_false rfl <| ldO h5 hx <| ldO h5.right.p1 hx <| still_eq hx hx <| br_false (by simp) <| br_false (by simp) ?_⟩
    obtain ⟨i, hp, hi0, hi1, _⟩ := tenonref01_Pick_ok at' 64 ha.1 ha.2 (by omega) (by omega)
    have hi1 := hi1 (by omega)
    have h6 := h5.right
    refine call_pure hp <| asI_ok <| idx8 h6.left.rd hi0 (by omega) (Same.refl _) fun a b hba hca => ldI_ok hca ?_
    have hbr := hB b (List.mem_of_getElem? hba)
    obtain ⟨x0, x1, x2⟩ := xor_facts hbr hb
    have hlt := (List.getElem?_eq_some_iff.1 hba).1
    rcases own_form h6.left with ⟨_, e⟩ | ⟨g, rfl⟩
    · omega
    refine idx_ok h6.left.rd hi0 (by omega) fun a ea => ?_
    cases ea
    rw [add_mk, Nat.zero_add, Nat.mul_one]
    refine st_own h6 (by rw [by8_length]; exact hlt) fun w7 h7 => ?_
    rw [by8_set] at h7
    have hB' : ∀ c ∈ (encL x).set i.toNat (bitw .xor .u8 b by'), 0 ≤ c ∧ c ≤ 255 := by
      intro c hc
      rcases List.mem_or_eq_of_mem_set hc with hc | rfl
      · exact hB c hc
      · exact ⟨x0, x1⟩
    have hL' : ((encL x).set i.toNat (bitw .xor .u8 b by')).length = 64 := by simp [hL]
    refine call_mono (objref_Decode_ok h7 (Gives.left Gives.own) (by omega) hB') ?_
    rintro _ w8 ⟨rfl, h8⟩
    have hR := decR_in hB'
    refine ⟨_, _, rfl, new_ok h8 fun k26 w9 h9 => stA_ok h9 (orF_size noX_in) (orF_size hR) orF_one fun w10 h10 => br_split (fun h0 => ?_) (fun h0 => ?_)⟩
    · have h0 : by' = 0 := by simpa using h0
      have e : (encL x).set i.toNat (bitw .xor .u8 b by') = encL x := by
        rw [x2.2 h0]
        apply List.ext_getElem?
        intro j
        rw [List.getElem?_set]
        split
        · rename_i e; subst e; first | exact hba.symm | (rw [if_pos hlt]; exact hba.symm)
        · rfl
      rw [e] at h10 hR
      rw [decR_encL hx hr] at h10 hR
      exact ldO h10 hR <| ldO h10.right.p1 hx <| still_eq hR hx <| br_true (by simp) <| done h10.right.right
    · have h0 : by' ≠ 0 := by simpa using h0
      have hne : (encL x).set i.toNat (bitw .xor .u8 b by') ≠ encL x := by
        intro e
        have := congrArg (fun l => l[i.toNat]?) e
        simp only [List.getElem?_set_self hlt, hba, Option.some.injEq] at this
        exact h0 (x2.1 this)
      rcases decR_turned hx hL' hB' hne with hd | ⟨hd, hz⟩
      · rw [hd] at h10 hR ⊢
        exact br_true rfl <| ldO h10 hR <| still_eq hR noX_in <| br_true (by simp) <| done h10.right.right
      · rw [hd]
        exact br_false (by decide) <| br_true rfl <| ldO h10 hR <| ldO h10.right.p1 hx <| still_eq hR hx <| br_true (by simp [hz]) <| done h10.right.right
theorem ObjrefBack_row {W : World} {v : Value} {at' by' : Int} (h : ∃ x, v = .agg (orF x) ∧ OIn x) (ha : IntKind.i64.min ≤ at' ∧ at' ≤ IntKind.i64.max) (hb : IntKind.u8.min ≤ by' ∧ by' ≤ IntKind.u8.max) :
    call Try.prog fn_tenonlaw07_ObjrefBack #[v, .int .i64 at', .int .u8 by'] W fun v w' => v = .bool true ∧ Below W.heap.size W w' := by
  simp [IntKind.min, IntKind.max, IntKind.signed, IntKind.bits] at ha hb
  obtain ⟨x, rfl, hx⟩ := h
  exact ObjrefBack_walk hx ha hb
end Go.Proofs.Ytgkdlglpkfoeeaa
