
/- Contracts of layer 5 (wire): the reader's texts, and the document's reading. No conditions. -/
import Derived.Test.YtjjnbcdcppnllaaW5
set_option linter.unusedVariables false
set_option linter.unusedSimpArgs false
set_option maxRecDepth 100000
namespace Go.Proofs.Ytjjnbcdcppnllaa
open Go.Sp Go.RowKit

theorem pow256_le {a b : Nat} (h : a ≤ b) : (256 : Int) ^ a ≤ 256 ^ b := by
  have h1 := Nat.pow_le_pow_right (n := 256) (by omega) h
  have e : ∀ k : Nat, (256 : Int) ^ k = ((256 ^ k : Nat) : Int) := fun k => by rw [Int.natCast_pow]; rfl
  rw [e, e]
  exact Int.ofNat_le.2 h1
theorem wire_Left_ok {w₀ w : World} {F : HP} {g at_ : Nat} {bs : List Int} (h : Sat w₀ (Rdr g bs at_ * F) w) (hat : at_ ≤ bs.length) (hb : bs.length ≤ 140737488355328) :
    call Try.prog fn_wire_Reader_Left #[.pointer (some ⟨g, 0, none⟩)] w fun v w' => v = .int .i64 ((bs.length - at_ : Nat) : Int) ∧ Sat w₀ (Rdr g bs at_ * F) w' := by
  apply wire_Reader_Left_call
  unfold wire_Reader_Left
  obtain ⟨p, c, h⟩ := Rdr.open_ h
  have h := h.drew
  refine br_false rfl <| nn_ok <| ldS_ok (h.left.cell (i := 0) rfl) <| nn_ok <| ldI_ok (h.left.cell (i := 1) rfl) <| arith_i64 (by omega) (by omega) ⟨?_, Rdr.shut h⟩
  congr 1
  omega
theorem wire_End_ok {w₀ w : World} {F : HP} {g at_ : Nat} {bs : List Int} (h : Sat w₀ (Rdr g bs at_ * F) w) (hat : at_ ≤ bs.length) (hb : bs.length ≤ 140737488355328) :
    call Try.prog fn_wire_Reader_End #[.pointer (some ⟨g, 0, none⟩)] w fun v w' => v = .int .i64 (if at_ < bs.length then 5 else 0) ∧ Sat w₀ (Rdr g bs at_ * F) w' := by
  apply wire_Reader_End_call
  unfold wire_Reader_End
  refine call_mono (wire_Left_ok h hat hb) ?_
  rintro _ w1 ⟨rfl, h1⟩
  refine asI_ok <| br_dec (fun hlt => ⟨?_, h1⟩) (fun hge => ⟨?_, h1⟩)
  · rw [if_pos (by omega)]
  · rw [if_neg (by omega)]

theorem readR_at {bs : List Int} {at_ : Nat} {size : Int} (h : at_ ≤ bs.length) : (readR bs at_ size).2.1 ≤ bs.length ∧ at_ ≤ (readR bs at_ size).2.1 ∧ ((readR bs at_ size).2.2 ≠ 0 → (readR bs at_ size).2.1 = at_ ∧ (readR bs at_ size).1 = 0) := by
  unfold readR
  split
  · exact ⟨h, Nat.le_refl _, fun _ => ⟨rfl, rfl⟩⟩
  · dsimp only
    split
    · exact ⟨h, Nat.le_refl _, fun _ => ⟨rfl, rfl⟩⟩
    · split
      · exact ⟨h, Nat.le_refl _, fun _ => ⟨rfl, rfl⟩⟩
      · exact ⟨by dsimp only; omega, by dsimp only; omega, fun h => absurd rfl h⟩
theorem readR_num {bs : List Int} {at_ : Nat} {size : Int} (hr : ∀ b ∈ bs, 0 ≤ b ∧ b ≤ 255) : 0 ≤ (readR bs at_ size).1 ∧ (readR bs at_ size).1 ≤ 18446744073709551615 := by
  unfold readR
  split
  · simp
  · rename_i hf
    dsimp only
    split
    · simp
    · split
      · simp
      · have h1 := le_range ((bs.drop (at_ + (gapI at_ size).toNat)).take size.toNat) fun b hb => hr b (List.mem_of_mem_drop (List.mem_of_mem_take hb))
        have hs := fitsB_pos (by simpa using hf)
        have h2 : ((bs.drop (at_ + (gapI at_ size).toNat)).take size.toNat).length ≤ 8 := by rw [List.length_take]; omega
        have h3 : (256 : Int) ^ ((bs.drop (at_ + (gapI at_ size).toNat)).take size.toNat).length ≤ 256 ^ 8 := pow256_le h2
        exact ⟨h1.1, by dsimp only; omega⟩

/-- A text at a place, the place behind it, the error. -/
def textR (bs : List Int) (at_ : Nat) (most : Int) : List Int × Nat × Int :=
  let r := readR bs at_ 4
  if r.2.2 ≠ 0 then ([], at_, r.2.2) else
  if most < 0 ∨ r.1 > most then ([], at_, 20) else
  if r.1 > ((bs.length - r.2.1 : Nat) : Int) then ([], at_, 6) else
  ((bs.drop r.2.1).take r.1.toNat, r.2.1 + r.1.toNat, 0)
theorem textR_at {bs : List Int} {at_ : Nat} {most : Int} (h : at_ ≤ bs.length) : (textR bs at_ most).2.1 ≤ bs.length := by
  have h1 := readR_at (size := 4) h
  unfold textR
  dsimp only
  split
  · exact h
  · split
    · exact h
    · split
      · exact h
      · dsimp only; omega

theorem tenonref01_Pick_ok (x n : Int) (h0 : -9223372036854775808 ≤ x) (h1 : x ≤ 9223372036854775807) (h2 : -9223372036854775808 ≤ n) (h3 : n ≤ 9223372036854775807) :
    ∃ k : Int, PureCall Try.prog fn_tenonref01_Pick #[.int .i64 x, .int .i64 n] (.int .i64 k) ∧ 0 ≤ k ∧ (1 ≤ n → k < n) ∧ (n < 1 → k = 0) := by
  by_cases hn : n < 1
  · refine ⟨0, fun w => ?_, by omega, by omega, fun _ => rfl⟩
    apply tenonref01_Pick_call
    unfold tenonref01_Pick
    exact br_true (by simpa using hn) ⟨rfl, rfl⟩
  · have hb : -n < x.tmod n ∧ x.tmod n < n := by
      have h4 := Int.tmod_lt_of_pos x (show 0 < n by omega)
      have h5 : -n < x.tmod n := by
        by_cases hx : 0 ≤ x
        · have := Int.tmod_nonneg n hx
          omega
        · have h6 := Int.tmod_lt_of_pos (-x) (show 0 < n by omega)
          rw [Int.neg_tmod] at h6
          omega
      exact ⟨h5, h4⟩
    by_cases hneg : x.tmod n < 0
    · refine ⟨x.tmod n + n, fun w => ?_, by omega, by omega, by omega⟩
      apply tenonref01_Pick_call
      unfold tenonref01_Pick
      exact br_false (by simpa using hn) ⟨by omega, br_true (by simpa using hneg) <| arith_i64 (by omega) (by omega) ⟨rfl, rfl⟩⟩
    · refine ⟨x.tmod n, fun w => ?_, by omega, by omega, by omega⟩
      apply tenonref01_Pick_call
      unfold tenonref01_Pick
      exact br_false (by simpa using hn) ⟨by omega, br_false (by simpa using hneg) ⟨rfl, rfl⟩⟩

/-! ### what was laid is read back -/
theorem readR_form {pre rest : List Int} {n size : Int} (hf : fitsB size = true) (h0 : 0 ≤ n) (h1 : n < 256 ^ size.toNat) :
    readR (pre ++ (form pre.length n size ++ rest)) pre.length size = (n, pre.length + (form pre.length n size).length, 0) := by
  have hs := fitsB_pos hf
  have hg := gapI_le (a := pre.length) (s := size) hs.1
  obtain ⟨m, hm⟩ : ∃ m : Nat, gapI pre.length size = m := ⟨(gapI pre.length size).toNat, by omega⟩
  have hfl := form_length pre.length n size hs.1
  have hd : (pre ++ (form pre.length n size ++ rest)).drop pre.length = List.replicate m 0 ++ (lay n size.toNat ++ rest) := by
    rw [List.drop_left, form, hm, List.append_assoc]; simp
  unfold readR
  rw [hf, hm, Int.toNat_natCast]
  rw [if_neg (by simp)]
  dsimp only
  rw [if_neg (by simp only [List.length_append, hfl, hm]; omega), hd]
  rw [List.take_left' (by simp), if_neg (by simp)]
  have hd2 : (pre ++ (form pre.length n size ++ rest)).drop (pre.length + m) = lay n size.toNat ++ rest := by
    rw [← List.drop_drop, hd, List.drop_left' (by simp)]
  rw [hd2, List.take_left' (lay_length _ _), le_lay n _ h0 h1, hfl, hm, Int.toNat_natCast]
  congr 2
  omega
end Go.Proofs.Ytjjnbcdcppnllaa
