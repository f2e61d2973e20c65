/- Values: the document's reading of a text. No conditions. -/
import Derived.Test.YtmecgkeplkchcaaV8
set_option linter.unusedVariables false
set_option linter.unusedSimpArgs false
set_option linter.unusedSectionVars false
set_option maxRecDepth 100000
namespace Go.Proofs.Ytmecgkeplkchcaa
open Go.Sp Go.RowKit

section
variable {w₀ w : World} {F : HP}
theorem tenonref05_ReadText_ok {p : Option Addr} {c o : Nat} {bs : List Int} {most : Int} (h : Sat w₀ F w) (gx : Gives F 1 p bs.length (by8 bs)) (hc : bs.length ≤ c) (ho : o ≤ bs.length) (hb : bs.length ≤ 140737488355328) (hr : ∀ b ∈ bs, 0 ≤ b ∧ b ≤ 255) (hm : most ≤ 9223372036854775807) :
    call Try.prog fn_tenonref05_ReadText #[.slice p bs.length c, .int .i64 o, .int .i64 most] w fun v w' => ∃ q d,
      v = .tuple #[.slice q (textR bs o most).1.length d, .int .i64 (textR bs o most).2.1, .int .i64 (textR bs o most).2.2] ∧ Sat w₀ (own T_uint8 1 q (textR bs o most).1.length d (by8 (textR bs o most).1) * F) w' := by
  apply tenonref05_ReadText_call
  unfold tenonref05_ReadText
  refine call_pure' (tenonref05_Read_ok (gx _ _ h) ho hb hr) ?_
  have hR := readR_at (size := 4) ho
  have hN := readR_num (at_ := o) (size := 4) hr
  obtain ⟨T, hT⟩ : ∃ T, textR bs o most = T := ⟨_, rfl⟩
  rw [hT]
  unfold textR at hT
  obtain ⟨⟨n, k, e⟩, E⟩ : ∃ t, readR bs o 4 = t := ⟨_, rfl⟩
  simp only [E] at hR hN hT ⊢
  have no : ∀ {e : Int}, ∃ q d, Value.tuple #[.slice none 0 0, .int .i64 o, .int .i64 e] = .tuple #[.slice q ([] : List Int).length d, .int .i64 o, .int .i64 e] ∧ Sat w₀ (own T_uint8 1 q ([] : List Int).length d (by8 []) * F) w := ⟨none, 0, rfl, h.own_nil _ _⟩
  refine ⟨_, _, _, rfl, br_split (fun he => ?_) (fun he => ?_)⟩
  · have he : e ≠ 0 := by simpa using he
    rw [if_pos he] at hT
    subst hT
    exact no
  have he : e = 0 := by simpa using he
  rw [if_neg (by simpa using he)] at hT
  refine br_dec (fun hlt => ?_) (fun hge => arith_u64 (by omega) (by omega) <| br_dec (fun hgt => ?_) (fun hle => ?_))
  · rw [if_pos (.inl hlt)] at hT
    subst hT
    exact no
  · rw [if_pos (.inr hgt)] at hT
    subst hT
    exact no
  rw [if_neg (by omega)] at hT
  refine arith_i64 (by omega) (by omega) <| arith_u64 (by omega) (by omega) <| br_dec (fun hgt => ?_) (fun hle2 => ?_)
  · rw [if_pos (by omega)] at hT
    subst hT
    exact no
  rw [if_neg (by omega)] at hT
  subst hT
  obtain ⟨m, rfl⟩ : ∃ m : Nat, n = m := ⟨n.toNat, by omega⟩
  refine arith_i64 (by omega) (by omega) <| arith_i64 (by omega) (by omega) <| slc_ok (by omega) (by omega) (by omega) ?_
  have e1 : ((k : Int) + (m : Int)).toNat = k + m := by omega
  rw [e1, Int.toNat_natCast, Int.toNat_natCast]
  have hg : Gives F 1 (if c = k then p else p.map (·.add (k * 1))) (k + m - k) (by8 ((bs.drop k).take (k + m - k))) := Gives.sub8 gx (by omega) (by omega) hc
  rw [show k + m - k = m by omega] at hg ⊢
  have hlen : ((bs.drop k).take m).length = m := by rw [List.length_take, List.length_drop]; omega
  refine app_ok bytesTy (h.own_nil T_uint8 1) (hg _ _ h) (by8_one _) (by simp only [maxLen]; omega) (by omega) fun p' c' w' h3 => ?_
  refine arith_i64 (by omega) (by omega) <| arith_i64 (by omega) (by omega) ⟨p', c', ?_, ?_⟩
  · rw [hlen, Nat.zero_add]
    have e2 : (k : Int) + (m : Int) = ((k + m : Nat) : Int) := by omega
    rw [e2]
  · rw [hlen]
    simpa using h3
end
end Go.Proofs.Ytmecgkeplkchcaa
