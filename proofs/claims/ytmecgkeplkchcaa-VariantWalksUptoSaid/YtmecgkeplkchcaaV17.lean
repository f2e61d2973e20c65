/- VariantEncodes, VariantSame, VariantBack: the walks. No conditions. -/
import Derived.Test.YtmecgkeplkchcaaV16
import Derived.Test.YtmecgkeplkchcaaV15
set_option linter.unusedVariables false
set_option linter.unusedSimpArgs false
set_option linter.unusedSectionVars false
set_option maxRecDepth 100000
namespace Go.Proofs.Ytmecgkeplkchcaa
open Go.Sp Go.RowKit

theorem form_rng (a : Nat) (n size : Int) : ∀ b ∈ form a n size, 0 ≤ b ∧ b ≤ 255 := by
  intro b hb
  simp only [form, List.mem_append, List.mem_replicate] at hb
  rcases hb with ⟨_, rfl⟩ | hb
  · omega
  · exact lay_range _ _ b hb
theorem app_rng {a b : List Int} (ha : ∀ x ∈ a, 0 ≤ x ∧ x ≤ 255) (hb : ∀ x ∈ b, 0 ≤ x ∧ x ≤ 255) : ∀ x ∈ a ++ b, 0 ≤ x ∧ x ≤ 255 := fun x hx => (List.mem_append.1 hx).elim (ha x) (hb x)
theorem form1_rng {bs : List Int} (x : VT) (h : ∀ b ∈ bs, 0 ≤ b ∧ b ≤ 255) : ∀ b ∈ form1 bs x, 0 ≤ b ∧ b ≤ 255 := by
  unfold form1
  have h1 := app_rng h (form_rng bs.length x.kd 1)
  revert h1
  generalize bs ++ form bs.length x.kd 1 = b1
  intro h1
  repeat' split
  · exact app_rng h1 (form_rng _ _ _)
  · exact app_rng h1 (form_rng _ _ _)
  · exact app_rng h1 (form_rng _ _ _)
  · exact app_rng (app_rng h1 (form_rng _ _ _)) (bytesS_range _)
  · exact app_rng h1 (form_rng _ _ _)
  · exact h1
theorem fold_rng : ∀ (l : List VT) {bs : List Int}, (∀ b ∈ bs, 0 ≤ b ∧ b ≤ 255) → ∀ b ∈ l.foldl form1 bs, 0 ≤ b ∧ b ≤ 255
  | [], _, h => h
  | x :: l, _, h => fold_rng l (form1_rng x h)
theorem encV_range (x : VT) : ∀ b ∈ encV x, 0 ≤ b ∧ b ≤ 255 := fold_rng (nd x) (fun b hb => by cases hb)
/-- What encoding answers: the form, or no. -/
def EncA (w₀ : World) (F : HP) (x : VT) (v : Value) (w : World) : Prop := ∃ q l d G, v = .tuple #[.slice q l d, .int .i64 (chkR 0 x)] ∧ Sat w₀ (G * F) w ∧ (chkR 0 x = 0 → l = (encV x).length ∧ Gives G 1 q l (by8 (encV x))) ∧ (chkR 0 x ≠ 0 → l = 0)
section
variable {w₀ w : World} {F : HP} {x : VT}
theorem variant_Encode_any (h : Sat w₀ F w) (hV : VGives F x) (hI : VIn x) (hw : tw x ≤ 68719476736) : call Try.prog fn_variant_Encode #[.agg (va x)] w (EncA w₀ F x) := by
  by_cases hc : chkR 0 x = 0
  · refine call_mono (variant_Encode_ok h hV hI hc hw) ?_
    rintro _ w1 ⟨q, d, rfl, h1⟩
    exact ⟨q, _, d, _, by rw [hc], h1, fun _ => ⟨rfl, Gives.own⟩, fun h => absurd hc h⟩
  · refine call_mono (variant_Encode_no h hV hI hc) ?_
    rintro _ w1 ⟨rfl, h1⟩
    exact ⟨none, 0, 0, emp, rfl, h1.with_emp, fun h => absurd h hc, fun _ => rfl⟩
theorem enc_len {x : VT} (hw : tw x ≤ 68719476736) : (encV x).length ≤ 68719476736 := by
  have := foldl_len (nd x) []
  simp only [List.length_nil, Nat.zero_add] at this
  exact Nat.le_trans this hw
end
theorem VariantEncodes_row {W : World} {v : Value} {m : Nat} (h : VArgB m W v) (hm : m ≤ 68719476736) : call Try.prog fn_tenonlaw06_VariantEncodes #[v] W fun v w' => v = .bool true ∧ Below W.heap.size W w' := by
  obtain ⟨x, rfl, hO, hI, hT⟩ := h
  have hT : tw x ≤ 68719476736 := by omega
  have hV : VGives (old W) x := VGives.old hO
  have h0 : Sat W (old W) W := Sat.start W
  apply tenonlaw06_VariantEncodes_call
  unfold tenonlaw06_VariantEncodes
  refine new_ok h0 fun k1 w1 h1 => ?_
  have h1 : Sat W (blk k1 (va x) 24 * old W) w1 := h1
  refine ldV4 h1 <| call_mono (variant_Encode_any h1 (VGives.right hV) hI hT) ?_
  rintro _ w2 ⟨q, l, d, G, rfl, h2, hyes, hno⟩
  have h2 := h2.perm (B := blk k1 (va x) 24 * (G * old W)) (by ac_rfl)
  refine ⟨_, _, _, _, rfl, ldV4 h2 <| call_mono (ref_Check_ok x 0 (by decide) (by decide) hI _ _ (VGives.right (VGives.right hV)) h2) ?_⟩
  rintro _ w3 ⟨rfl, h3⟩
  have done : ∀ {w : World} {A : HP}, Sat W (A * old W) w → call Try.prog 11 #[] w fun v w' => asB v fun b => (Value.bool b) = .bool true ∧ Below W.heap.size W w' := by
    intro w A h
    refine call_mono (tenonlaw06_awake_ok h) ?_
    rintro _ w4 ⟨rfl, h4⟩
    exact asB_ok ⟨rfl, h4.right.below'⟩
  refine asI_ok <| br_false (by simp) <| br_split (fun hne => ?_) (fun he => ?_)
  · have hne : chkR 0 x ≠ 0 := by simpa using hne
    rw [hno hne]
    exact br_true rfl (done (h3.perm (B := (blk k1 (va x) 24 * G) * old W) (by ac_rfl)))
  · have he : chkR 0 x = 0 := by simpa using he
    obtain ⟨rfl, hG⟩ := hyes he
    refine ldV4 h3 <| call_mono (ref_Encode_ok x 0 [] none 0 _ w3 (nz_all he) hI (VGives.right (VGives.right hV)) (Gives.nil _ _ _) (by
      show 0 + tw x ≤ _
      omega) h3) ?_
    rintro _ w4 ⟨q5, e5, rfl, h5⟩
    have h5 : Sat W (own T_uint8 1 q5 (encV x).length e5 (by8 (encV x)) * (blk k1 (va x) 24 * (G * old W))) w4 := h5
    have hl := enc_len hT
    refine asS_ok <| call_reads (tenonref01_SameBytes_ok (xs := encV x) (ys := encV x) (hG _ _ h5.right.right.left) h5.left.rd (by omega)) fun w5 hs => asB_ok <| br_true (by simp) ?_
    exact done ((h5.same hs).perm (B := (own T_uint8 1 q5 (encV x).length e5 (by8 (encV x)) * (blk k1 (va x) 24 * G)) * old W) (by ac_rfl))
theorem VariantSame_row {W : World} {v u : Value} {m n : Nat} (h : VArgB m W v) (hm : m ≤ 68719476736) (h' : VArgB n W u) (hn : n ≤ 68719476736) : call Try.prog fn_tenonlaw06_VariantSame #[v, u] W fun v w' => v = .bool true ∧ Below W.heap.size W w' := by
  obtain ⟨x, rfl, hO, hI, hT⟩ := h
  obtain ⟨y, rfl, hP, hJ, hU⟩ := h'
  have hT : tw x ≤ 68719476736 := by omega
  have hU : tw y ≤ 68719476736 := by omega
  have hV : VGives (old W) x := VGives.old hO
  have hVy : VGives (old W) y := VGives.old hP
  have h0 : Sat W (old W) W := Sat.start W
  apply tenonlaw06_VariantSame_call
  unfold tenonlaw06_VariantSame
  refine new_ok h0 fun k1 w1 h1 => new_ok h1 fun k2 w2 h2 => ?_
  have h2 : Sat W (blk k2 (va y) 24 * (blk k1 (va x) 24 * old W)) w2 := h2
  have gx : ∀ {A B : HP}, VGives (A * (B * old W)) x := fun {_ _} => VGives.right (VGives.right hV)
  have gy : ∀ {A B : HP}, VGives (A * (B * old W)) y := fun {_ _} => VGives.right (VGives.right hVy)
  refine ldV4 h2.right <| ldV4 h2 <| call_mono (variant_Same_ok x y _ _ hI gx gy h2) ?_
  rintro _ w3 ⟨b, rfl, hb, h3⟩
  refine asB_ok <| ldV4 h3.right <| ldV4 h3 <| call_mono (ref_Same_ok x y _ _ hI gx gy h3) ?_
  rintro _ w4 ⟨b', rfl, hb', h4⟩
  have : b = b' := by rw [Bool.eq_iff_iff, hb, hb']
  subst this
  refine asB_ok <| br_false (by simp) <| ldV4 h4.right <| ldV4 h4.right <| call_mono (variant_Same_ok x x _ _ hI gx gx h4) ?_
  rintro _ w5 ⟨b2, rfl, hb2, h5⟩
  have : b2 = true := hb2.2 rfl
  subst this
  refine asB_ok <| br_false rfl <| ldV4 h5.right <| call_mono (variant_Encode_any h5 gx hI hT) ?_
  rintro _ w6 ⟨q, l, d, G, rfl, h6, hyes, hno⟩
  have h6 := h6.perm (B := blk k2 (va y) 24 * (blk k1 (va x) 24 * (G * old W))) (by ac_rfl)
  refine ⟨_, _, _, _, rfl, ldV4 h6 <| call_mono (variant_Encode_any h6 (VGives.right gy) hJ hU) ?_⟩
  rintro _ w7 ⟨q', l', d', G', rfl, h7, hyes', hno'⟩
  have done : ∀ {w : World} {A : HP}, Sat W (A * old W) w → call Try.prog 11 #[] w fun v w' => asB v fun b => (Value.bool b) = .bool true ∧ Below W.heap.size W w' := by
    intro w A h
    refine call_mono (tenonlaw06_awake_ok h) ?_
    rintro _ w4 ⟨rfl, h4⟩
    exact asB_ok ⟨rfl, h4.right.below'⟩
  have h8 := h7.perm (B := (G' * (blk k2 (va y) 24 * (blk k1 (va x) 24 * G))) * old W) (by ac_rfl)
  refine ⟨_, _, _, _, rfl, br_split (fun _ => done h8) (fun he => br_split (fun _ => done h8) (fun he' => ?_))⟩
  have he : chkR 0 x = 0 := by simpa using he
  have he' : chkR 0 y = 0 := by simpa using he'
  obtain ⟨rfl, hG⟩ := hyes he
  obtain ⟨rfl, hG'⟩ := hyes' he'
  have hl := enc_len hT
  have hl' := enc_len hU
  refine call_reads (tenonref01_SameBytes_ok (xs := encV x) (ys := encV y) (hG _ _ h7.right.right.right.left) (hG' _ _ h7.left) (by omega)) fun w8 hs => asB_ok <| br_true ?_ (done (h8.same hs))
  have : b = decide (encV x = encV y) := by
    rw [Bool.eq_iff_iff, hb, enc_inj he he' hI hJ]
    simp
  rw [this]
  simp
theorem VariantBack_row {W : World} {v u : Value} {m : Nat} (h : VArgB m W v) (hm : m ≤ 68719476736) (h' : ∃ p c bs, u = .slice p (List.length bs) c ∧ bs.length ≤ c ∧ bs.length ≤ 9223372036854775807 ∧ Rd W 1 p bs.length (by8 bs) ∧ ∀ b ∈ bs, 0 ≤ b ∧ b ≤ 255)
    (hz : ∀ p l c, u = .slice p l c → l ≤ 1048576) : call Try.prog fn_tenonlaw06_VariantBack #[v, u] W fun v w' => v = .bool true ∧ Below W.heap.size W w' := by
  obtain ⟨x, rfl, hO, hI, hT⟩ := h
  obtain ⟨p, c, bs, rfl, hc, _, hx, hr⟩ := h'
  have hbl := hz _ _ _ rfl
  have hT : tw x ≤ 68719476736 := by omega
  have hV : VGives (old W) x := VGives.old hO
  have h0 : Sat W (old W) W := Sat.start W
  apply tenonlaw06_VariantBack_call
  unfold tenonlaw06_VariantBack
  refine new_ok h0 fun k1 w1 h1 => ?_
  have h1 : Sat W (blk k1 (va x) 24 * old W) w1 := h1
  refine ldV4 h1 <| call_mono (variant_Encode_any h1 (VGives.right hV) hI hT) ?_
  rintro _ w2 ⟨q, l, d, G, rfl, h2, hyes, hno⟩
  have h2 := h2.perm (B := blk k1 (va x) 24 * (G * old W)) (by ac_rfl)
  have done : ∀ {w : World} {A : HP}, Sat W (A * old W) w → call Try.prog 11 #[] w fun v w' => asB v fun b => (Value.bool b) = .bool true ∧ Below W.heap.size W w' := by
    intro w A h
    refine call_mono (tenonlaw06_awake_ok h) ?_
    rintro _ w4 ⟨rfl, h4⟩
    exact asB_ok ⟨rfl, h4.right.below'⟩
  refine ⟨_, _, _, _, rfl, fun w => ∃ A, Sat W (A * old W) w, ?_, ?_⟩
  · refine br_split (fun he => ?_) (fun _ => ⟨_, h2.perm (B := (blk k1 (va x) 24 * G) * old W) (by ac_rfl)⟩)
    have he : chkR 0 x = 0 := by simpa using he
    obtain ⟨rfl, hG⟩ := hyes he
    have hl := enc_len hT
    obtain ⟨y, hdec, hey⟩ := dec_enc he hI
    refine call_mono (variant_Decode_ok (bs := encV x) h2 (Gives.right (Gives.left hG)) (by omega) (encV_range x)) ?_
    rw [hdec]
    rintro _ w3 ⟨z, Gz, rfl, hez, hGz, hIz, h3⟩
    refine ⟨_, _, rfl, new_ok h3 fun k10 w4 h4 => stA_ok h4 rfl rfl (va_one z) fun w5 h5 => br_false (by simp) ?_⟩
    have h5 : Sat W (blk k10 (va z) 24 * (Gz * (blk k1 (va x) 24 * (G * old W)))) w5 := h5
    refine ldV4 h5 <| ldV4 h5.right.right <| call_mono (ref_Same_ok z x _ _ hIz (VGives.right (VGives.left hGz)) (VGives.right (VGives.right (VGives.right (VGives.right hV)))) h5) ?_
    rintro _ w6 ⟨b, rfl, hb, h6⟩
    have : b = true := hb.2 (hez.trans hey)
    subst this
    exact asB_ok <| br_false rfl ⟨_, h6.perm (B := (blk k10 (va z) 24 * (Gz * (blk k1 (va x) 24 * G))) * old W) (by ac_rfl)⟩
  rintro u w7 ⟨A, h7⟩
  refine call_mono (variant_Decode_ok (bs := bs) h7 (Gives.right (Gives.old hx)) (by omega) hr) ?_
  rintro _ w8 ⟨y, Gy, rfl, hey, hGy, hIy, h8⟩
  obtain ⟨⟨y0, e⟩, E⟩ : ∃ t, decF bs = t := ⟨_, rfl⟩
  simp only [E] at hey ⊢
  refine ⟨_, _, rfl, new_ok h8 fun k19 w9 h9 => stA_ok h9 rfl rfl (va_one y) fun w10 h10 => ?_⟩
  have h10 : Sat W (blk k19 (va y) 24 * (Gy * (A * old W))) w10 := h10
  refine br_split (fun hne => ldV4 h10 <| ?_) (fun he => ldV4 h10 <| ?_)
  · have hne : e ≠ 0 := by simpa using hne
    have e0 : y0 = v0 := by
      unfold decF at E
      split at E
      · simp only [Prod.mk.injEq] at E; exact E.1.symm
      · split at E
        · simp only [Prod.mk.injEq] at E; exact E.1.symm
        · simp only [Prod.mk.injEq] at E; exact absurd E.2.symm hne
    subst e0
    refine call_mono (ref_Same_ok y v0 _ _ hIy (VGives.right (VGives.left hGy)) (fun a b c => v0_gives a b c.with_emp.left) h10) ?_
    rintro _ w11 ⟨b, rfl, hb, h11⟩
    have : b = true := hb.2 hey
    subst this
    exact asB_ok <| br_true rfl (done (h11.perm (B := (blk k19 (va y) 24 * (Gy * A)) * old W) (by ac_rfl)))
  · have he : e = 0 := by simpa using he
    subst he
    obtain ⟨hen, hch⟩ := enc_dec hr E
    have hen : encV y = bs := by rw [encV_same hey, hen]
    have hch : chkR 0 y = 0 := by rw [chkR_same hey, hch]
    have hty := tw_enc hch
    rw [hen] at hty
    refine call_mono (variant_Encode_any h10 (VGives.right (VGives.left hGy)) hIy (by omega)) ?_
    rintro _ w13 ⟨q3, l3, d3, G3, rfl, h13, hyes3, _⟩
    obtain ⟨rfl, hG3⟩ := hyes3 hch
    refine ⟨_, _, _, _, rfl, ldV4 h13.right <| call_mono (variant_Check_ok h13 (VGives.right (VGives.right (VGives.left hGy))) hIy) ?_⟩
    rintro _ w14 ⟨rfl, h14⟩
    rw [hch]
    refine asI_ok <| br_true rfl <| br_true rfl ?_
    rw [hen] at hG3 ⊢
    refine call_reads (tenonref01_SameBytes_ok (xs := bs) (ys := bs) (hG3 _ _ h14.left) (hx.old h14.right.right.right.right) (by omega)) fun w15 hs => asB_ok <| br_true (by simp) ?_
    exact done ((h14.same hs).perm (B := (G3 * (blk k19 (va y) 24 * (Gy * A))) * old W) (by ac_rfl))
end Go.Proofs.Ytmecgkeplkchcaa
