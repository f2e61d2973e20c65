/- VariantDecodes: the document's Decode; the walk. No conditions. -/
import Derived.Test.YtmecgkeplkchcaaV11
import Derived.Test.YtmecgkeplkchcaaV10
import Derived.Test.YtmecgkeplkchcaaVO
set_option linter.unusedVariables false
set_option linter.unusedSimpArgs false
set_option linter.unusedSectionVars false
set_option maxRecDepth 100000
namespace Go.Proofs.Ytmecgkeplkchcaa
open Go.Sp Go.RowKit

section
variable {w₀ w : World} {F : HP}
theorem tenonref06_Decode_ok {p : Option Addr} {c : Nat} {bs : List Int} (h : Sat w₀ F w) (gx : Gives F 1 p bs.length (by8 bs)) (hc : bs.length ≤ c) (hb : bs.length ≤ 140737488355328) (hr : ∀ b ∈ bs, 0 ≤ b ∧ b ≤ 255) :
    call Try.prog fn_tenonref06_Decode #[.slice p bs.length c] w (DecW w₀ F (decF bs)) := by
  apply tenonref06_Decode_call
  unfold tenonref06_Decode
  refine new_ok h fun k1 w1 h1 => ?_
  have h1 : Sat w₀ (blk k1 (va v0) 24 * F) w1 := h1
  refine call_mono (tenonref06_Read_ok hc hb hr 8 (by omega) 0 _ w1 (Nat.zero_le _) (Gives.right gx) h1) ?_
  rintro _ w2 ⟨x, G, o, rfl, hx, ho, hG, hI, h2⟩
  obtain ⟨r, hrr⟩ : ∃ r, decF bs = r := ⟨_, rfl⟩
  rw [hrr]
  unfold decF at hrr
  obtain ⟨⟨y, o', e⟩, EY⟩ : ∃ t, rdV bs 8 0 = t := ⟨_, rfl⟩
  simp only [EY] at hrr hx ho ⊢
  refine ⟨_, _, _, rfl, new_ok h2 fun k6 w3 h3 => stA_ok h3 rfl rfl (va_one x) fun w4 h4 => ?_⟩
  have h4 : Sat w₀ (blk k6 (va x) 24 * (G * (blk k1 (va v0) 24 * F))) w4 := h4
  have bad : ∀ {e : Int}, (v0, e) = r → stA Try.prog (⟨k1, 0, none⟩ : Addr) 4 #[.int .i64 0, .int .i64 0, .string ByteArray.empty, .slice none 0 0] w4 fun w5 => ldA (⟨k1, 0, none⟩ : Addr) 4 w5 fun g7 => DecW w₀ F r (.tuple #[.agg g7, .int .i64 e]) w5 := by
    rintro e rfl
    refine stA_ok (h4.perm (B := blk k1 (va v0) 24 * (blk k6 (va x) 24 * (G * F))) (by ac_rfl)) rfl rfl (va_one v0) fun w5 h5 => ?_
    have h5 : Sat w₀ (blk k1 (va v0) 24 * (blk k6 (va x) 24 * (G * F))) w5 := h5
    exact ldV4 h5 ⟨v0, emp, rfl, rfl, v0_gives, v0_in, h5.right.right.right.with_emp⟩
  refine br_split (fun he => br_dec (fun hlt => br_true (by decide) ?_) (fun hge => ?_)) (fun he => ?_)
  · have he : e = 0 := by simpa using he
    subst he
    obtain rfl := ho rfl
    rw [if_neg (by simp), if_pos (by omega)] at hrr
    exact bad hrr
  · have he : e = 0 := by simpa using he
    subst he
    obtain rfl := ho rfl
    rw [if_neg (by simp), if_neg (by omega)] at hrr
    subst hrr
    refine br_false (by decide) <| ldV4 h4 <| stA_ok (h4.perm (B := blk k1 (va v0) 24 * (blk k6 (va x) 24 * (G * F))) (by ac_rfl)) rfl rfl (va_one x) fun w5 h5 => ?_
    have h5 : Sat w₀ (blk k1 (va x) 24 * (blk k6 (va x) 24 * (G * F))) w5 := h5
    exact ldV4 h5 ⟨x, G, rfl, hx, hG, hI, h5.right.right⟩
  · have he : e ≠ 0 := by simpa using he
    rw [if_pos he] at hrr
    exact br_true (by simp [he]) (bad hrr)
theorem VariantDecodes_walk {W : World} {p : Option Addr} {c : Nat} {bs : List Int} (hx : Rd W 1 p bs.length (by8 bs)) (hc : bs.length ≤ c) (hl : bs.length ≤ 140737488351232) (hr : ∀ b ∈ bs, 0 ≤ b ∧ b ≤ 255) :
    call Try.prog fn_tenonlaw06_VariantDecodes #[.slice p bs.length c] W fun v w' => v = .bool true ∧ Below W.heap.size W w' := by
  apply tenonlaw06_VariantDecodes_call
  unfold tenonlaw06_VariantDecodes
  refine call_mono (tenonref01_Lent_ok (Sat.start W) (Gives.old hx) hl) ?_
  rintro _ w1 ⟨q, d, rfl, hd, h1⟩
  refine ⟨_, _, _, rfl, call_mono (variant_Decode_ok (bs := bs) h1 (Gives.left (Lnt.gives rfl)) (by omega) hr) ?_⟩
  rintro _ w2 ⟨x, G, rfl, hex, hG, hI, h2⟩
  refine ⟨_, _, rfl, new_ok h2 fun k6 w3 h3 => stA_ok h3 rfl rfl (va_one x) fun w4 h4 => ?_⟩
  have h4 : Sat W (blk k6 (va x) 24 * (G * (Lnt q bs.length d bs * old W))) w4 := h4
  refine call_mono (tenonref06_Decode_ok (bs := bs) h4 (Gives.right (Gives.right (Gives.right (Gives.old hx)))) hc (by omega) hr) ?_
  rintro _ w5 ⟨y, G', rfl, hey, hG', hI', h5⟩
  refine ⟨_, _, rfl, new_ok h5 fun k10 w6 h6 => stA_ok h6 rfl rfl (va_one y) fun w7 h7 => ?_⟩
  have h7 : Sat W (blk k10 (va y) 24 * (G' * (blk k6 (va x) 24 * (G * (Lnt q bs.length d bs * old W))))) w7 := h7
  refine ldV4 (h7.perm (B := blk k6 (va x) 24 * (blk k10 (va y) 24 * (G' * (G * (Lnt q bs.length d bs * old W))))) (by ac_rfl)) <| ldV4 h7 <| call_mono (ref_Same_ok x y _ _ hI (VGives.right (VGives.right (VGives.right (VGives.left hG)))) (VGives.right (VGives.left hG')) h7) ?_
  rintro _ w8 ⟨b, rfl, hb, h8⟩
  have : b = true := hb.2 (hex.trans hey.symm)
  subst this
  refine asB_ok <| br_true rfl <| br_true (by simp) <| call_mono (tenonref01_Kept_ok (h8.perm (B := Lnt q bs.length d bs * (blk k10 (va y) 24 * (G' * (blk k6 (va x) 24 * (G * old W))))) (by ac_rfl)) rfl hd (Gives.right (Gives.right (Gives.right (Gives.right (Gives.old hx))))) hl) ?_
  rintro _ w9 ⟨rfl, h9⟩
  refine asB_ok <| br_true rfl <| call_mono (tenonlaw06_awake_ok h9) ?_
  rintro _ w10 ⟨rfl, h10⟩
  exact asB_ok ⟨rfl, h10.right.right.right.right.right.below'⟩
theorem VariantDecodes_row {W : World} {v : Value} (h : ∃ p c bs, v = .slice p (List.length bs) c ∧ bs.length ≤ c ∧ bs.length ≤ 9223372036854775807 ∧ Rd W 1 p bs.length (by8 bs) ∧ ∀ b ∈ bs, 0 ≤ b ∧ b ≤ 255)
    (hz : ∀ p l c, v = .slice p l c → l * Try.prog.bytesOf T_uint8 ≤ reachBytes) :
    call Try.prog fn_tenonlaw06_VariantDecodes #[v] W fun v w' => v = .bool true ∧ Below W.heap.size W w' := by
  obtain ⟨p, c, bs, rfl, hc, _, hx, hr⟩ := h
  have hlen := hz _ _ _ rfl
  have hb1 : Try.prog.bytesOf T_uint8 = 1 := by kernel_rfl
  rw [hb1, Nat.mul_one] at hlen
  exact VariantDecodes_walk hx hc (by simp only [reachBytes] at hlen; omega) hr
end
section
open Go.ChangeShapes Go.WideShapes Go.Deep
variable {H : Type} {enc : TypeId × Value → H} {W : World} {base : Nat}
theorem open_Bytes {v : Value} {d : DataW H} {ps : List MemPlace} (hv : Value.okWide Try.prog W .any base T_sl_uint8 v) (h : DataW.Trod enc Try.prog W 0 (fun _ => true) true T_sl_uint8 v d ps) :
    ∃ p c bs, v = .slice p (List.length bs) c ∧ bs.length ≤ c ∧ bs.length ≤ 9223372036854775807 ∧ Rd W 1 p bs.length (by8 bs) ∧ ∀ b ∈ bs, 0 ≤ b ∧ b ≤ 255 := by
  obtain ⟨p0, l0, c0, rfl⟩ := okWide_slice Try.underlying30 hv
  obtain ⟨fuel, h⟩ := h
  have hf : Try.prog.info? T_uint8 = some (Try.prog.types[T_uint8]'(of_decide_eq_true (by kernel_rfl))) := by kernel_rfl
  obtain ⟨p, l, c, zs, e, hlc, hc, hrd, hrg⟩ := open_nums Try.underlying30 hf (by kernel_rfl) Try.underlying5 h
  cases e
  have hl : zs.length = l0 := Rd.len8 hrd
  subst hl
  exact ⟨p0, c0, zs, rfl, hlc, by simp only [maxLen] at hc; omega, hrd, fun b hb => by have := hrg b hb; simpa [IntKind.min, IntKind.max, IntKind.signed, IntKind.bits] using this⟩
end
end Go.Proofs.Ytmecgkeplkchcaa
