/- Values: the law's own check that it is awake. No conditions. -/
import Derived.Test.YtmecgkeplkchcaaV10
import Derived.Test.YtmecgkeplkchcaaV4
set_option linter.unusedVariables false
set_option linter.unusedSimpArgs false
set_option linter.unusedSectionVars false
set_option maxRecDepth 100000
namespace Go.Proofs.Ytmecgkeplkchcaa
open Go.Sp Go.RowKit

def sA : VT := .mk 1 1 ByteArray.empty none 0 []
def sB : VT := .mk 4 0 (⟨#[97]⟩ : ByteArray) none 0 []
def sV (p : Option Addr) (c : Nat) : VT := .mk 6 0 ByteArray.empty p c [sA, sB]
def sE : List Int := [6, 0, 0, 0, 2, 0, 0, 0, 1, 1, 4, 0, 1, 0, 0, 0, 97]
theorem sV_enc (p : Option Addr) (c : Nat) : encV (sV p c) = sE := by
  have e : nd (sV p c) = [sV p c, sA, sB] := by
    simp [nd, pre_eq, sV, VT.l, sA, sB]
  rw [encV, e]
  have e1 : form1 [] (sV p c) = [6, 0, 0, 0, 2, 0, 0, 0] := by
    show ([] ++ form ([] : List Int).length 6 1) ++ form ([] ++ form ([] : List Int).length 6 1).length 2 4 = _
    decide
  have e2 : form1 [6, 0, 0, 0, 2, 0, 0, 0] sA = [6, 0, 0, 0, 2, 0, 0, 0, 1, 1] := by decide
  have e3 : form1 [6, 0, 0, 0, 2, 0, 0, 0, 1, 1] sB = sE := by decide
  show form1 (form1 (form1 [] (sV p c)) sA) sB = sE
  rw [e1, e2, e3]
theorem sE_dec : decF sE = (sV none 0, 0) := by kernel_rfl
theorem sV_in (p : Option Addr) (c : Nat) : VIn (sV p c) := by
  refine .mk (show (-9223372036854775808 : Int) ≤ 6 ∧ (6 : Int) ≤ 9223372036854775807 by decide) (show (-9223372036854775808 : Int) ≤ 0 ∧ (0 : Int) ≤ 9223372036854775807 by decide) ⟨show ByteArray.empty.size ≤ 9223372036854775807 by decide, show 2 ≤ 9223372036854775807 by decide⟩ (fun y hy => ?_)
  have hy : y ∈ [sA, sB] := hy
  rcases List.mem_cons.1 hy with rfl | hy
  · exact leaf_in (by decide) (by decide) (by decide)
  · obtain rfl := List.mem_singleton.1 hy
    exact leaf_in (by decide) (by decide) (by decide)
theorem sV_chk (p : Option Addr) (c : Nat) : chkR 0 (sV p c) = 0 := by
  have e : pre 0 (sV p c) = [(0, sV p c), (1, sA), (1, sB)] := by
    rw [pre_eq]
    show (0, sV p c) :: [sA, sB].flatMap (pre (dn 0)) = _
    rw [List.flatMap_cons, List.flatMap_cons, List.flatMap_nil, pre_eq, pre_eq]
    rfl
  rw [chkR, e]
  have noE : noS ByteArray.empty = true := by
    show (ByteArray.empty.toList == ByteArray.empty.toList) = true
    simp
  have c1 : chk1 0 (sV p c) = 0 := by
    have f : formB (sV p c) = true := by simp [formB, sV, VT.kd, VT.n, VT.s, VT.l, noE]
    have z : (sV p c).s.size = 0 := rfl
    simp [chk1, f, z]
    simp [sV, VT.l]
  have c2 : chk1 1 sA = 0 := by
    have f : formB sA = true := by simp [formB, sA, VT.kd, VT.n, VT.s, VT.l, noE]
    have z : sA.s.size = 0 := rfl
    simp [chk1, f, z]
    simp [sA, VT.l]
  have c3 : chk1 1 sB = 0 := by rfl
  show nz [chk1 0 (sV p c), chk1 1 sA, chk1 1 sB] = 0
  rw [c1, c2, c3]
  rfl
theorem sV_tw (p : Option Addr) (c : Nat) : tw (sV p c) ≤ 68719476736 := by
  have e : nd (sV p c) = [sV p c, sA, sB] := by
    simp [nd, pre_eq, sV, VT.l, sA, sB]
  rw [tw, e]
  show (24 + 0) + ((24 + 0) + ((24 + 1) + 0)) ≤ _
  decide
theorem er_sV (p q : Option Addr) (c d : Nat) : er (sV p c) = er (sV q d) := by
  rw [er_iff]
  exact ⟨rfl, rfl, rfl, rfl⟩
section
variable {w₀ w : World} {F : HP}
theorem tenonlaw06_some_ok (h : Sat w₀ F w) : call Try.prog fn_tenonlaw06_some #[] w fun v w' => ∃ p c G, v = .agg (va (sV p c)) ∧ VGives G (sV p c) ∧ Sat w₀ (G * F) w' := by
  apply tenonlaw06_some_call
  unfold tenonlaw06_some
  refine new_ok h fun k1 w1 h1 => new_ok h1 fun k2 w2 h2 => stA_ok (vs := va (sV (some ⟨k2, 0, none⟩) 2)) (h2.perm (B := blk k1 (va v0) 24 * (blk k2 (va sA ++ va sB) 24 * F)) (by show blk k2 (va sA ++ va sB) 24 * (blk k1 (va v0) 24 * F) = _; ac_rfl)) rfl rfl (va_one _) fun w3 h3 => ldV4 h3 ⟨_, _, _, rfl, ?_, h3.right⟩
  have g : Gives (blk k2 (va sA ++ va sB) 24) 4 (some ⟨k2, 0, none⟩) 2 (va sA ++ va sB).toList := Gives.ob rfl
  refine VGives.mk g (fun y hy => ?_)
  have hy : y ∈ [sA, sB] := hy
  have em : ∀ {k n : Int} {s : ByteArray}, VGives (blk k2 (va sA ++ va sB) 24) (.mk k n s none 0 []) := fun _ _ _ => .mk ⟨rfl, fun h => absurd h (by simp [VT.l]), fun a e => by cases e⟩ (fun y hy => by cases hy)
  rcases List.mem_cons.1 hy with rfl | hy
  · exact em
  · obtain rfl := List.mem_singleton.1 hy
    exact em
theorem tenonlaw06_awake_ok (h : Sat w₀ F w) : call Try.prog fn_tenonlaw06_awake #[] w fun v w' => v = .bool true ∧ Sat w₀ F w' := by
  apply tenonlaw06_awake_call
  unfold tenonlaw06_awake
  refine call_mono (tenonlaw06_some_ok h) ?_
  rintro _ w1 ⟨p, c, G, rfl, hG, h1⟩
  refine ⟨_, rfl, call_mono (variant_Encode_ok h1 (VGives.left hG) (sV_in p c) (sV_chk p c) (sV_tw p c)) ?_⟩
  rintro _ w2 ⟨q, d, rfl, h2⟩
  rw [sV_enc] at h2 ⊢
  refine ⟨_, _, _, _, rfl, call_mono (variant_Decode_ok (bs := sE) h2 (Gives.left Gives.own) (by decide) (by decide)) ?_⟩
  rw [sE_dec]
  rintro _ w3 ⟨x, Gx, rfl, hx, hGx, hIx, h3⟩
  refine ⟨_, _, rfl, new_ok h3 fun k9 w4 h4 => stA_ok h4 rfl rfl (va_one x) fun w5 h5 => ?_⟩
  have h5 : Sat w₀ (blk k9 (va x) 24 * (Gx * (own T_uint8 1 q sE.length d (by8 sE) * (G * F)))) w5 := h5
  have h6 := h5.drew
  have rd := h6.right.right.left.rd
  refine br_true rfl <| br_true rfl <| br_true rfl ?_
  refine idx8 rd (by decide) (by decide) (Same.refl _) fun a b hb ha => ldI_ok ha <| br_true ?_ ?_
  · have : sE[(0 : Int).toNat]? = some 6 := by rfl
    rw [this] at hb
    cases hb
    rfl
  refine idx8 rd (by decide) (by decide) (Same.refl _) fun a b hb ha => ldI_ok ha <| br_true ?_ ?_
  · have : sE[(16 : Int).toNat]? = some 97 := by rfl
    rw [this] at hb
    cases hb
    rfl
  refine ldV4 h6 <| call_mono (tenonlaw06_some_ok h6) ?_
  rintro _ w6 ⟨p', c', G', rfl, hG', h7⟩
  have h8 := h7.perm (B := blk k9 (va x) 24 * (G' * (Gx * (own T_uint8 1 q sE.length d (by8 sE) * (G * F))))) (by ac_rfl)
  refine ⟨_, rfl, keepS_blk0 h8 <| call_mono (ref_Same_ok x (sV p' c') _ _ hIx (VGives.right (VGives.right (VGives.left hGx))) (VGives.right (VGives.left hG')) h8) ?_⟩
  rintro _ w7 ⟨b, rfl, hb, h9⟩
  have : b = true := hb.2 (hx.trans (er_sV _ _ _ _))
  subst this
  exact asB_ok ⟨rfl, h9.right.right.right.right.right⟩
end
end Go.Proofs.Ytmecgkeplkchcaa
