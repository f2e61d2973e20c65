/- Values: the program's Decode. No conditions. -/
import Derived.Test.YtmecgkeplkchcaaV7
set_option linter.unusedVariables false
set_option linter.unusedSimpArgs false
set_option linter.unusedSectionVars false
set_option maxRecDepth 100000
namespace Go.Proofs.Ytmecgkeplkchcaa
open Go.Sp Go.RowKit

/-- The whole of it, read. -/
def decF (bs : List Int) : VT × Int :=
  if (rdV bs 8 0).2.2 ≠ 0 then (v0, (rdV bs 8 0).2.2) else if (rdV bs 8 0).2.1 < bs.length then (v0, 5) else ((rdV bs 8 0).1, 0)
section
variable {w₀ w : World} {F : HP}
def DecW (w₀ : World) (F : HP) (r : VT × Int) (v : Value) (w : World) : Prop := ∃ x G, v = .tuple #[.agg (va x), .int .i64 r.2] ∧ er x = er r.1 ∧ VGives G x ∧ VIn x ∧ Sat w₀ (G * F) w
theorem variant_Decode_ok {p : Option Addr} {l c : Nat} {bs : List Int} (h : Sat w₀ F w) (gx : Gives F 1 p l (by8 bs)) (hb : l ≤ 140737488355328) (hr : ∀ b ∈ bs, 0 ≤ b ∧ b ≤ 255) :
    call Try.prog fn_variant_Decode #[.slice p l c] w (DecW w₀ F (decF bs)) := by
  apply variant_Decode_call
  unfold variant_Decode
  have hl := (gx _ _ h).len8
  subst hl
  refine new_ok h fun k1 w1 h1 => call_mono (wire_NewReader_ok h1 (Gives.right gx) hb) ?_
  rintro _ w2 ⟨g, rfl, h2⟩
  refine asP_ok <| call_mono (variant_decode_ok hb hr 8 (by omega) 0 _ w2 (by omega) h2) ?_
  rintro _ w3 ⟨x, G, o, rfl, hx, ho, hol, hG, hI, h3⟩
  obtain ⟨r, hrr⟩ : ∃ r, decF bs = r := ⟨_, rfl⟩
  rw [hrr]
  unfold decF at hrr
  obtain ⟨⟨y, o', e⟩, EY⟩ : ∃ t, rdV bs 8 0 = t := ⟨_, rfl⟩
  simp only [EY] at hrr hx ho ⊢
  refine ⟨_, _, rfl, new_ok h3 fun k7 w4 h4 => stA_ok h4 rfl rfl (va_one x) fun w5 h5 => ?_⟩
  have h5 : Sat w₀ (blk k7 (va x) 24 * (Rdr g bs o * (G * (blk k1 (va v0) 24 * F)))) w5 := h5
  have bad : ∀ {e : Int} {w : World}, Sat w₀ (blk k1 (va v0) 24 * F) w → DecW w₀ F (v0, e) (.tuple #[.agg (va v0), .int .i64 e]) w := fun h => ⟨v0, emp, rfl, rfl, v0_gives, v0_in, h.right.with_emp⟩
  refine br_split (fun he => ?_) (fun he => ?_)
  · have he : e = 0 := by simpa using he
    subst he
    obtain rfl := ho rfl
    rw [if_neg (by simp)] at hrr
    refine call_mono (wire_End_ok (h5.perm (B := Rdr g bs o * (blk k7 (va x) 24 * (G * (blk k1 (va v0) 24 * F)))) (by ac_rfl)) hol hb) ?_
    rintro _ w6 ⟨rfl, h6⟩
    refine asI_ok <| br_split (fun hn => ?_) (fun hn => ?_)
    · have hlt : o < bs.length := by
        by_cases q : o < bs.length
        · exact q
        · simp at hn; omega
      rw [if_pos hlt] at hrr
      subst hrr
      refine stA_ok (h6.perm (B := blk k1 (va v0) 24 * (Rdr g bs o * (blk k7 (va x) 24 * (G * F)))) (by ac_rfl)) rfl rfl (va_one v0) fun w7 h7 => ?_
      have h7 : Sat w₀ (blk k1 (va v0) 24 * (Rdr g bs o * (blk k7 (va x) 24 * (G * F)))) w7 := h7
      refine ldV4 h7 ?_
      rw [if_pos hlt]
      exact ⟨v0, emp, rfl, rfl, v0_gives, v0_in, h7.right.right.right.right.with_emp⟩
    · have hge : ¬ o < bs.length := by
        intro q
        simp [q] at hn
      rw [if_neg hge] at hrr
      subst hrr
      refine ldV4 (h6.perm (B := blk k7 (va x) 24 * (Rdr g bs o * (G * (blk k1 (va v0) 24 * F)))) (by ac_rfl)) <| stA_ok (h6.perm (B := blk k1 (va v0) 24 * (Rdr g bs o * (blk k7 (va x) 24 * (G * F)))) (by ac_rfl)) rfl rfl (va_one x) fun w8 h8 => ?_
      have h8 : Sat w₀ (blk k1 (va x) 24 * (Rdr g bs o * (blk k7 (va x) 24 * (G * F)))) w8 := h8
      exact ldV4 h8 ⟨x, G, rfl, hx, hG, hI, h8.right.right.right⟩
  · have he : e ≠ 0 := by simpa using he
    rw [if_pos he] at hrr
    subst hrr
    refine br_true (by simp [he]) <| stA_ok (h5.perm (B := blk k1 (va v0) 24 * (Rdr g bs o * (blk k7 (va x) 24 * (G * F)))) (by ac_rfl)) rfl rfl (va_one v0) fun w7 h7 => ?_
    have h7 : Sat w₀ (blk k1 (va v0) 24 * (Rdr g bs o * (blk k7 (va x) 24 * (G * F)))) w7 := h7
    exact ldV4 h7 ⟨v0, emp, rfl, rfl, v0_gives, v0_in, h7.right.right.right.right.with_emp⟩
end
end Go.Proofs.Ytmecgkeplkchcaa
