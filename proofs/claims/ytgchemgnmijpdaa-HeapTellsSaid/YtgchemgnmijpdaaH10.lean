/- Heaps: the document's example. No conditions. -/
import Derived.Test.YtgchemgnmijpdaaH9
set_option linter.unusedVariables false
set_option linter.unusedSimpArgs false
set_option maxRecDepth 100000
namespace Go.Proofs.Ytgchemgnmijpdaa
open Go.Sp Go.RowKit

theorem Fall.nil {S : HS} {gn fo : List Int} {r : HS × List Int × List Int} (h : Fall S [] gn fo r) : r = (S, gn, fo) := by cases h; rfl
/-- What falls, computed. -/
def fallF : Nat → HS → List Int → List Int → List Int → Option (HS × List Int × List Int)
  | _, S, [], gn, fo => some (S, gn, fo)
  | 0, _, _ :: _, _, _ => none
  | n + 1, S, h :: wt, gn, fo => match pay S h with
    | none => none
    | some o => let q := lets (rmL S (h :: o.inn), wt, fo) (o.ln ++ o.inn.flatMap (lnOf S)); fallF n q.1 q.2.1 (gn ++ h :: o.inn) q.2.2
theorem fallF_fall : ∀ (n : Nat) {S : HS} {wt gn fo : List Int} {r : HS × List Int × List Int}, fallF n S wt gn fo = some r → Fall S wt gn fo r
  | n, S, [], gn, fo, r, h => by
    have : r = (S, gn, fo) := by cases n <;> (simp only [fallF, Option.some.injEq] at h; exact h.symm)
    subst this
    exact .done
  | 0, S, x :: wt, gn, fo, r, h => by simp [fallF] at h
  | n + 1, S, x :: wt, gn, fo, r, h => by
    rw [fallF] at h
    cases hp : pay S x with
    | none => rw [hp] at h; cases h
    | some o =>
      rw [hp] at h
      exact .step hp rfl (fallF_fall n h)
theorem Fall.eq {n : Nat} {S : HS} {wt gn fo : List Int} {r r' : HS × List Int × List Int} (h : Fall S wt gn fo r) (h' : fallF n S wt gn fo = some r') : r = r' := h.one (fallF_fall n h')
def s0 (most : Int) : HS := ⟨most, 1, [], [], 0⟩
theorem s0_pay (most h : Int) : pay (s0 most) h = none := by
  unfold pay find s0
  split
  · rfl
  · simp
theorem s0_inv {most top : Int} (h0 : 1 ≤ most) (h1 : most ≤ 256) (h2 : 1 ≤ top) (h3 : top ≤ 4294967295) : HInv top (s0 most) :=
  ⟨⟨AOk.start h0 (by omega) (by decide) (by decide), h1, ⟨h2, h3⟩, fun h o hp => by rw [s0_pay] at hp; cases hp⟩, fun h o hp => (by rw [s0_pay] at hp; cases hp), fun h o hp => (by rw [s0_pay] at hp; cases hp), fun h o hp => (by rw [s0_pay] at hp; cases hp)⟩
abbrev e1 : Int := 4294967297
abbrev e2 : Int := 4294967298
def aw1 : HS := (mkM (s0 4) 1 0).1
def aw2 : HS := (mkM aw1 1 0).1
def aw3 : HS := (putM 9 aw2 e1 0 (1, e2)).2.1
def aw4 : HS := (dnM aw3 e2).2.1
theorem aw1_h : (mkM (s0 4) 1 0).2 = (e1, 0) := by rfl
theorem aw2_h : (mkM aw1 1 0).2 = (e2, 0) := by rfl
theorem aw3_h : (putM 9 aw2 e1 0 (1, e2)).1 = 0 ∧ (putM 9 aw2 e1 0 (1, e2)).2.2 = ([], []) := by exact ⟨rfl, rfl⟩
theorem aw4_h : (dnM aw3 e2).1 = 0 ∧ (dnM aw3 e2).2.2 = ([], []) := by exact ⟨rfl, rfl⟩
theorem aw5_h : (dnM aw4 e1).1 = 0 ∧ (fallF 9 (dnM aw4 e1).2.1 (dnM aw4 e1).2.2.1 [] (dnM aw4 e1).2.2.2).map (·.2.1) = some [e1, e2] := by exact ⟨rfl, rfl⟩
section
variable {w₀ w : World} {F : HP}
theorem tenonlaw11_awake_ok (h : Sat w₀ F w) : call Try.prog fn_tenonlaw11_awake #[] w fun v w' => v = .bool true ∧ Sat w₀ F w' := by
  apply tenonlaw11_awake_call
  unfold tenonlaw11_awake
  refine call_mono (heap_New_ok (top := 9) h (by decide) (by decide) (by decide)) ?_
  rintro _ w1 ⟨b, a, rfl, h1⟩
  have i0 : HInv 9 (s0 4) := s0_inv (by decide) (by decide) (by decide) (by decide)
  refine ⟨_, _, rfl, call_mono (heap_Make_ok (slots := 1) (outer := 0) (S := s0 4) h1 i0 (by decide) (by decide)) ?_⟩
  rintro _ w2 ⟨rfl, P2, h2⟩
  have i1 : HInv 9 aw1 := (mkM_inv i0 (by decide)).1
  have h2 : Sat w₀ (HH b a 9 P2 aw1 * F) w2 := h2
  rw [aw1_h]
  refine ⟨_, _, rfl, call_mono (heap_Make_ok (slots := 1) (outer := 0) h2 i1 (by decide) (by decide)) ?_⟩
  rintro _ w3 ⟨rfl, P3, h3⟩
  have i2 : HInv 9 aw2 := (mkM_inv i1 (by decide)).1
  have h3 : Sat w₀ (HH b a 9 P3 aw2 * F) w3 := h3
  rw [aw2_h]
  refine ⟨_, _, rfl, br_false rfl <| br_false rfl <| br_false rfl <| call_mono (heap_Put_ok (h := e1) (slot := 0) (x := (1, e2)) h3 i2 ⟨(show -9223372036854775808 ≤ (1 : Int) ∧ (1 : Int) ≤ 9223372036854775807 by decide), (show 0 ≤ e2 ∧ e2 ≤ 18446744073709551615 by decide)⟩ (by decide) (by decide)) ?_⟩
  rintro v w4 (⟨hne, _⟩ | ⟨_, r, P4, pg, cg, pf, cf, hF, i3, _, _, _, _, rfl, h4⟩)
  · exact absurd aw3_h.1 hne
  have e3 : (putM 9 aw2 e1 0 (1, e2)).2.2 = ([], []) := aw3_h.2
  rw [e3] at hF
  have := Fall.nil hF
  subst this
  have h4 : Sat w₀ (tab T_uint64 1 fU64 pg 0 cg [] * (tab T_uint64 1 fU64 pf 0 cf [] * (HH b a 9 P4 aw3 * F))) w4 := h4
  refine ⟨_, _, _, _, _, _, _, rfl, call_mono (heap_Down_out (S := aw3) (h := e2) h4.right.right i3 (by decide) (by decide)) ?_⟩
  rintro v w5 (⟨hne, _⟩ | ⟨_, r, P5, pg5, cg5, pf5, cf5, hF, i4, _, _, _, _, rfl, h5⟩)
  · exact absurd aw4_h.1 hne
  rw [aw4_h.2] at hF
  have := Fall.nil hF
  subst this
  have h5 : Sat w₀ (tab T_uint64 1 fU64 pg5 0 cg5 [] * (tab T_uint64 1 fU64 pf5 0 cf5 [] * (HH b a 9 P5 aw4 * F))) w5 := h5
  refine ⟨_, _, _, _, _, _, _, rfl, call_mono (heap_Down_out (S := aw4) (h := e1) h5.right.right i4 (by decide) (by decide)) ?_⟩
  rintro v w6 (⟨hne, _⟩ | ⟨_, r, P6, pg6, cg6, pf6, cf6, hF, i5, _, _, _, _, rfl, h6⟩)
  · exact absurd aw5_h.1 hne
  obtain ⟨r', hr', hg⟩ := Option.map_eq_some_iff.1 aw5_h.2
  have := hF.eq hr'
  subst this
  refine ⟨_, _, _, _, _, _, _, rfl, br_true rfl <| br_true rfl <| br_true rfl <| br_true rfl <| new_ok h6 fun k22 w7 h7 => ?_⟩
  rw [hg] at h7 ⊢
  have r1 : Rd w7 1 pg6 [e1, e2].length ([e1, e2].flatMap fU64) := Sat.rd (t := T_uint64) (c := cg6) (show Sat w₀ (own T_uint64 1 pg6 _ cg6 _) w7 from h7.right.left)
  have r2 : Rd w7 1 (some ⟨k22, 0, none⟩) 2 ([e1, e2].flatMap fU64) := h7.left.rd_ob (sz := 1) (l := 2) rfl
  refine call_reads (SameLongs_ok r1 r2 (by decide)) fun w8 hs => asB_ok ⟨by simp, (h7.same hs).right.right.right.right⟩
end
end Go.Proofs.Ytgchemgnmijpdaa
