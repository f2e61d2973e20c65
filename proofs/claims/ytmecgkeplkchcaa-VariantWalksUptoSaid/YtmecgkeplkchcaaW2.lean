
/- Contracts of layer 5 (wire): what the statements use beside. No conditions. -/
import Derived.Test.YtmecgkeplkchcaaW1
set_option linter.unusedVariables false
set_option linter.unusedSimpArgs false
namespace Go.Proofs.Ytmecgkeplkchcaa
open Go.Sp Go.RowKit

theorem own_more {t : TypeId} {sz : Nat} {p : Option Addr} {l c : Nat} {xs : List Value} {w₀ w : World} {F : HP} (h : Sat w₀ (own t sz p l c xs * F) w) (hl : 0 < l) : ∃ g, p = some ⟨g, 0, none⟩ ∧ l ≤ c := by
  obtain ⟨k, hk, hx, a⟩ := h.left.heap
  rcases a with ⟨_, rfl, _⟩ | ⟨g, cur, rfl, _, hc, _⟩
  · omega
  · exact ⟨g, rfl, hc⟩

/-- Bytes with marks behind them. -/
def Lnt (p : Option Addr) (n c : Nat) (bs : List Int) : HP := own T_uint8 1 p (n + 4) c (by8 (bs ++ [90, 91, 92, 93]))
theorem Lnt.gives {p : Option Addr} {n c : Nat} {bs : List Int} (hn : bs.length = n) : Gives (Lnt p n c bs) 1 p n (by8 bs) := by
  intro w₀ w hs
  have h := hs.rd
  refine ⟨by rw [by8_length]; omega, fun _ => h.2.1 (by omega), fun a e j u hj => ?_⟩
  refine h.2.2 a e j u ?_
  rw [by8_append, List.getElem?_append_left (by rw [by8_length]; have := (List.getElem?_eq_some_iff.1 hj).1; rw [by8_length] at this; omega)]
  exact hj

theorem tenonref01_Lent_ok {w₀ w : World} {F : HP} {p : Option Addr} {l c : Nat} {bs : List Int} (h : Sat w₀ F w) (hx : Gives F 1 p l (by8 bs)) (hl : l ≤ 140737488351232) :
    call Try.prog fn_tenonref01_Lent #[.slice p l c] w fun v w' => ∃ q d, v = .slice q l d ∧ l + 4 ≤ d ∧ Sat w₀ (Lnt q l d bs * F) w' := by
  have e := (hx _ _ h).len8
  subst e
  apply tenonref01_Lent_call
  unfold tenonref01_Lent
  refine arith_i64 (by omega) (by omega) (make_ok (c := bs.length + 4) (l := 0) bytesTy h (by omega) (by omega) (by omega) fun p1 w1 h1 => ?_)
  simp only [Nat.zero_mul, List.take_zero] at h1
  refine ⟨fun q l d i w' m => 0 ≤ i ∧ i ≤ bs.length ∧ m = bs.length - i.toNat ∧ l = i.toNat ∧ Sat w₀ (own T_uint8 1 q l d (by8 (bs.take i.toNat)) * F) w', ⟨_, by omega, by omega, rfl, rfl, by simpa [by8] using h1⟩, ?_⟩
  rintro u q l d i w2 m ⟨hi0, hi1, rfl, rfl, h2⟩
  refine br_dec (fun hlt => ?_) (fun hge => ?_)
  · refine idx8 (hx _ _ h2.right) hi0 hlt (Same.refl _) fun a x hxa hca => ldI_ok hca (new_ok h2 fun b w3 h3 => app1_ok bytesTy h3 rfl (by simp only [maxLen]; omega) (by omega) fun p4 c4 w4 h4 => ?_)
    refine arith_i64 (by omega) (by omega) ⟨_, by omega, by omega, by omega, rfl, by omega, ?_⟩
    have e2 : (i + 1).toNat = i.toNat + 1 := by omega
    rw [e2, List.take_add_one, hxa]
    rw [by8_append]
    exact h4
  · have : i = bs.length := by omega
    subst this
    simp only [Int.toNat_natCast, List.take_length] at h2 ⊢
    refine new_ok h2 fun b w3 h3 => ?_
    refine app_ok (m := 4) bytesTy h3.right (h3.left.rd_ob (l := 4) (by simp)) (by simp [Value.oneCell']) (by simp only [maxLen]; omega) (by omega) fun p5 c5 w5 h5 => ?_
    obtain ⟨g, rfl, hc⟩ := own_more h5 (by omega)
    refine slc_ok (by omega) (by omega) (by omega) ?_
    have e0 : (if c5 = Int.toNat 0 then some (⟨g, 0, none⟩ : Addr) else (some (⟨g, 0, none⟩ : Addr)).map (·.add (Int.toNat 0 * 1))) = some ⟨g, 0, none⟩ := by split <;> simp [add_zero]
    rw [e0]
    refine ⟨some ⟨g, 0, none⟩, c5, by simp, by omega, ?_⟩
    rw [Lnt, by8_append]
    exact h5

theorem tenonref01_Kept_ok {w₀ w : World} {F : HP} {p q : Option Addr} {n d c : Nat} {bs : List Int} (h : Sat w₀ (Lnt p n d bs * F) w) (hn : bs.length = n) (hd : n + 4 ≤ d) (hx : Gives F 1 q n (by8 bs)) (hl : n ≤ 140737488351232) :
    call Try.prog fn_tenonref01_Kept #[.slice p n d, .slice q n c] w fun v w' => v = .bool true ∧ Sat w₀ (Lnt p n d bs * F) w' := by
  apply tenonref01_Kept_call
  unfold tenonref01_Kept
  obtain ⟨g, rfl, hc⟩ := own_more (show Sat w₀ (own T_uint8 1 p (n + 4) d (by8 (bs ++ [90, 91, 92, 93])) * F) w from h) (by omega)
  refine arith_i64 (by omega) (by omega) (slc_ok (by omega) (by omega) (by omega) ?_)
  have e0 : (if d = Int.toNat 0 then some (⟨g, 0, none⟩ : Addr) else (some (⟨g, 0, none⟩ : Addr)).map (·.add (Int.toNat 0 * 1))) = some ⟨g, 0, none⟩ := by split <;> simp [add_zero]
  rw [e0]
  refine ⟨fun i w' m => 0 ≤ i ∧ i ≤ 4 ∧ m = 4 - i.toNat ∧ w' = w, ⟨4, by omega, by omega, rfl, rfl⟩, ?_⟩
  rintro u i w1 m' ⟨hi0, hi1, rfl, rfl⟩
  refine br_dec (fun hlt => ?_) (fun hge => ?_)
  · refine arith_i64 (by omega) (by omega) ?_
    have hrd : Rd w1 1 (some ⟨g, 0, none⟩) (n + 4) (by8 (bs ++ [90, 91, 92, 93])) := h.left.rd
    have hl4 : ((n : Int) + 4).toNat - Int.toNat 0 = n + 4 := by omega
    rw [hl4]
    refine idx8 hrd (by omega) (by omega) (Same.refl _) fun a x hxa hca => ldI_ok hca (arith_i64 (by omega) (by omega) (arith_u8 ?_))
    have hx2 : x = (90 + i) % 256 := by
      have e1 : ((n : Int) + i).toNat = n + i.toNat := by omega
      rw [e1, List.getElem?_append_right (by omega), show n + i.toNat - bs.length = i.toNat by omega] at hxa
      have : i = 0 ∨ i = 1 ∨ i = 2 ∨ i = 3 := by omega
      rcases this with rfl | rfl | rfl | rfl <;> simp at hxa <;> omega
    refine br_false (by simp [hx2]) (arith_i64 (by omega) (by omega) ⟨_, by omega, by omega, by omega, rfl, rfl⟩)
  · refine call_reads (tenonref01_SameBytes_ok (Lnt.gives hn _ _ h.left) (hx _ _ h.right) (by omega)) fun w2 hs => ?_
    exact asB_ok ⟨by simp, h.same hs⟩

end Go.Proofs.Ytmecgkeplkchcaa
