
/- ObjrefDecodes: the document's reading, and the walk. No conditions. -/
import Derived.Test.YtkkfhceejhabeaaOQ
set_option linter.unusedVariables false
set_option linter.unusedSimpArgs false
namespace Go.Proofs.Ytkkfhceejhabeaa
open Go.Sp Go.RowKit

theorem orF_set {x : ORef} {j : Nat} {b : Int} : (orF x).setIfInBounds (4 + j) (.int .u8 b) = orF { x with bs := x.bs.set j b } := by
  apply Array.ext'
  rw [Array.toList_setIfInBounds]
  show (orL x ++ by8 x.bs).set (4 + j) (.int .u8 b) = orL x ++ by8 (x.bs.set j b)
  rw [List.set_append_right _ _ (by simp [orL])]
  simp [orL, by8, List.map_set]
theorem ref_Decode_ok {w₀ w : World} {F : HP} {p : Option Addr} {l c : Nat} {bs : List Int} (h : Sat w₀ F w) (hx : Gives F 1 p l (by8 bs)) (hc : l ≤ c) (hb : l ≤ 140737488355328) (hr : ∀ b ∈ bs, 0 ≤ b ∧ b ≤ 255) :
    call Try.prog fn_tenonref07_Decode #[.slice p l c] w fun v w' => v = .tuple #[.agg (orF (decR bs).1), .int .i64 (decR bs).2] ∧ Sat w₀ F w' := by
  apply tenonref07_Decode_call
  unfold tenonref07_Decode
  have hl := (hx _ _ h).len8
  subst hl
  rw [← orF_noX]
  refine new_ok h fun k1 w1 h1 => br_dec (fun hlt => ?_) (fun hge => ?_)
  · refine stA_ok h1 (orF_size noX_in) (orF_size noX_in) orF_one fun w2 h2 => ldO h2 noX_in ⟨?_, h2.right⟩
    rw [decR, if_pos (by omega)]
  · have hn : ¬ bs.length < 64 := by omega
    have hX := decX_in (by omega) hr
    have hdec : decR bs = if okD bs = true then (decX bs, 0) else (noX, 5) := by rw [decR, if_neg hn]
    rw [okD_iff (by omega) hr] at hdec
    have num : ∀ {w' : World} {G : HP} (o n : Nat) {K : Value → World → Prop}, Sat w₀ G w' → Gives G 1 p bs.length (by8 bs) → o + n ≤ bs.length → n ≤ 8 → K (.int .u64 (at_ bs o n)) w' →
        call Try.prog fn_tenonref07_num #[.slice (if c = o then p else p.map (·.add (o * 1))) (o + n - o) (c - o)] w' K := by
      intro w' G o n K hS hG hon hn8 hk
      have g := (Gives.sub8 hG (lo := o) (hi := o + n) (by omega) (by omega) hc) _ _ hS
      rw [show o + n - o = n by omega] at g ⊢
      exact call_pure' (tenonref07_num_ok g hn8 fun b hm => hr b (List.mem_of_mem_drop (List.mem_of_mem_take hm))) hk
    have r1 := at_range (o := 4) (n := 4) hr
    have r2 := at_range (o := 8) (n := 4) hr
    have g1 : Gives (blk k1 (orF noX) T_api_Objref * F) 1 p bs.length (by8 bs) := Gives.right hx
    have g2 : ∀ k, Gives (blk k (orF noX) T_api_Objref * (blk k1 (orF noX) T_api_Objref * F)) 1 p bs.length (by8 bs) := fun k => Gives.right g1
    have fin : ∀ {w' : World} {k : Nat}, Sat w₀ (blk k (orF noX) T_api_Objref * (blk k1 (orF noX) T_api_Objref * F)) w' →
        stA Try.prog (⟨k, 0, none⟩ : Addr) 36 (orF ⟨at_ bs 4 4, at_ bs 8 4, at_ bs 16 8, at_ bs 24 8, List.replicate 32 0⟩) w' fun w8 => ∃ k', (⟨k, 0, none⟩ : Addr) = ⟨k', 0, none⟩ ∧ Sat w₀ (blk k' (orF ⟨at_ bs 4 4, at_ bs 8 4, at_ bs 16 8, at_ bs 24 8, List.replicate 32 0⟩) T_api_Objref * (blk k1 (orF noX) T_api_Objref * F)) w8 := by
      intro w' k hk
      exact stA_ok hk (orF_size noX_in) rfl orF_one fun w8 h8 => ⟨k, rfl, h8⟩
    have hd := h1.drew
    refine ⟨fun a w => ∃ k, a = ⟨k, 0, none⟩ ∧ Sat w₀ (blk k (orF ⟨at_ bs 4 4, at_ bs 8 4, at_ bs 16 8, at_ bs 24 8, List.replicate 32 0⟩) T_api_Objref * (blk k1 (orF noX) T_api_Objref * F)) w, ?_, ?_⟩
    · refine slc_ok (by omega) (by omega) (by omega) <| slc_ok (by omega) (by omega) (by omega) <| slc_ok (by omega) (by omega) (by omega) <| slc_ok (by omega) (by omega) (by omega) ?_
      refine ⟨num 4 4 hd g1 (by omega) (by omega) <| asI_ok <| arith_u32 (by omega) (by omega) ⟨num 8 4 hd g1 (by omega) (by omega) <| asI_ok <| arith_u32 (by omega) (by omega) ⟨num 16 8 hd g1 (by omega) (by omega) <| asI_ok ⟨num 24 8 hd g1 (by omega) (by omega) <| asI_ok <| new_ok hd fun k w2 h2 => fin h2, new_ok hd fun k w2 h2 => ?_⟩, new_ok hd fun k w2 h2 => ?_⟩, new_ok hd fun k w2 h2 => ?_⟩, new_ok hd fun k w2 h2 => ?_⟩
      · exact num 24 8 h2 (g2 k) (by omega) (by omega) <| asI_ok <| fin h2
      · exact num 16 8 h2 (g2 k) (by omega) (by omega) <| asI_ok <| num 24 8 h2 (g2 k) (by omega) (by omega) <| asI_ok <| fin h2
      · exact num 8 4 h2 (g2 k) (by omega) (by omega) <| asI_ok <| arith_u32 (by omega) (by omega) <| num 16 8 h2 (g2 k) (by omega) (by omega) <| asI_ok <| num 24 8 h2 (g2 k) (by omega) (by omega) <| asI_ok <| fin h2
      · exact num 4 4 h2 (g2 k) (by omega) (by omega) <| asI_ok <| arith_u32 (by omega) (by omega) <| num 8 4 h2 (g2 k) (by omega) (by omega) <| asI_ok <| arith_u32 (by omega) (by omega) <| num 16 8 h2 (g2 k) (by omega) (by omega) <| asI_ok <| num 24 8 h2 (g2 k) (by omega) (by omega) <| asI_ok <| fin h2
    · rintro u _ w2 ⟨k, rfl, h2⟩
      refine ⟨fun i w m => ∃ (j : Nat) (M : List Int), i = j ∧ j ≤ 16 ∧ m = 16 - j ∧ M.length = 32 ∧ (∀ q, q < j → M[q]? = bs[32 + q]? ∧ M[16 + q]? = bs[48 + q]?) ∧ Sat w₀ (blk k (orF ⟨at_ bs 4 4, at_ bs 8 4, at_ bs 16 8, at_ bs 24 8, M⟩) T_api_Objref * (blk k1 (orF noX) T_api_Objref * F)) w,
        ⟨_, 0, _, rfl, by omega, rfl, by simp, fun q hq => by omega, h2⟩, ?_⟩
      rintro u _ w3 m ⟨j, M, rfl, hj, rfl, hM, hq, h3⟩
      refine br_dec (fun hlt => ?_) (fun hge2 => ?_)
      · refine arith_i64 (by omega) (by omega) <| idx8 (hx _ _ h3.right.right) (by omega) (by omega) (Same.refl _) fun a y hya hca => ldI_ok hca <| idxA_ok (by omega) (by omega) ?_
        rw [add_mk, add_mk, Nat.zero_add, Int.toNat_natCast, Nat.mul_one]
        rw [show (32 + (j : Int)).toNat = 32 + j by omega] at hya
        refine st_ok (i := 4 + j) h3 (by simp [orF, orL, by8_length]; omega) fun w4 h4 => ?_
        rw [orF_set] at h4
        refine arith_i64 (by omega) (by omega) <| idx8 (hx _ _ h4.right.right) (by omega) (by omega) (Same.refl _) fun a z hza hca => ldI_ok hca <| idxA_ok (by omega) (by omega) ?_
        rw [add_mk, add_mk, Nat.zero_add, Int.toNat_natCast, Nat.mul_one]
        rw [show (48 + (j : Int)).toNat = 48 + j by omega] at hza
        refine st_ok (i := 20 + j) h4 (by simp [orF, orL, by8_length]; omega) fun w5 h5 => ?_
        rw [show 20 + j = 4 + (16 + j) by omega, orF_set] at h5
        refine arith_i64 (by omega) (by omega) ⟨_, by omega, j + 1, (M.set j y).set (16 + j) z, by omega, by omega, rfl, by simp [hM], fun q hq2 => ?_, h5⟩
        by_cases e : q = j
        · subst e
          rw [hya, hza]
          refine ⟨?_, ?_⟩
          · rw [List.getElem?_set_ne (by omega), List.getElem?_set_self (by omega)]
          · rw [List.getElem?_set_self (by simp; omega)]
        · have := hq q (by omega)
          rw [List.getElem?_set_ne (by omega), List.getElem?_set_ne (by omega), List.getElem?_set_ne (by omega), List.getElem?_set_ne (by omega)]
          exact this
      · have : j = 16 := by omega
        subst this
        have hMe : M = (bs.drop 32).take 32 := by
          apply List.ext_getElem?
          intro i
          rw [List.getElem?_take, List.getElem?_drop]
          by_cases h16 : i < 16
          · rw [if_pos (by omega)]
            exact (hq i h16).1
          · by_cases h32 : i < 32
            · rw [if_pos h32]
              have := (hq (i - 16) (by omega)).2
              rw [show 16 + (i - 16) = i by omega, show 48 + (i - 16) = 32 + i by omega] at this
              exact this
            · rw [if_neg h32, List.getElem?_eq_none (by omega)]
        subst hMe
        have h3 : Sat w₀ (blk k (orF (decX bs)) T_api_Objref * (blk k1 (orF noX) T_api_Objref * F)) w3 := h3
        have out : ∀ {w G}, Sat w₀ (blk k1 (orF noX) T_api_Objref * (G * F)) w → (rightB (decX bs) && decide (encL (decX bs) = bs)) = false →
            stA Try.prog (⟨k1, 0, none⟩ : Addr) 36 (orF noX) w fun w18 => ldA (⟨k1, 0, none⟩ : Addr) 36 w18 fun g36 => (Value.tuple #[.agg g36, .int .i64 5]) = .tuple #[.agg (orF (decR bs).1), .int .i64 (decR bs).2] ∧ Sat w₀ F w18 := by
          intro w G hw ho
          refine stA_ok hw (orF_size noX_in) (orF_size noX_in) orF_one fun w' h' => ldO h' noX_in ⟨?_, h'.right.right⟩
          rw [hdec, ho]
          rfl
        refine ldO h3 hX <| call_mono (tenonref07_Right_ok h3 hX) ?_
        rintro _ w4 ⟨rfl, h4⟩
        refine asB_ok <| br_split (fun hR => out (G := blk k (orF (decX bs)) T_api_Objref) (h4.perm (by ac_rfl)) ?_) (fun hR => ?_)
        · have : rightB (decX bs) = false := by simpa using hR
          rw [this]
          rfl
        · have hR : rightB (decX bs) = true := by simpa using hR
          refine ldO h4 hX <| call_mono (tenonref07_Encode_ok (pre := []) h4 hX (Gives.nil _ _ _) (by omega) (by decide)) ?_
          rintro _ w5 ⟨q, d, rfl, h5⟩
          refine asS_ok <| call_reads (tenonref01_SameBytes_ok h5.left.rd (hx _ _ h5.right.right.right) (by omega)) fun w6 hs => asB_ok ?_
          have h6 := h5.same hs
          rw [List.nil_append]
          refine br_split (fun he => out (G := own T_uint8 1 q 64 d (by8 (encL (decX bs))) * blk k (orF (decX bs)) T_api_Objref) (h6.perm (by rw [List.nil_append, Nat.zero_add]; ac_rfl)) ?_) (fun he => ?_)
          · have he : encL (decX bs) ≠ bs := by simpa using he
            simp [he]
          · have he : encL (decX bs) = bs := by simpa using he
            refine ldO h6.right hX <| stA_ok (h6.perm (B := blk k1 (orF noX) T_api_Objref * (own T_uint8 1 q (0 + 64) d (by8 ([] ++ encL (decX bs))) * (blk k (orF (decX bs)) T_api_Objref * F))) (by ac_rfl)) (orF_size noX_in) (orF_size hX) orF_one fun w7 h7 => ldO h7 hX ⟨?_, h7.right.right.right⟩
            rw [hdec, hR, decide_eq_true he]
            rfl

section
open Go.ChangeShapes Go.WideShapes Go.Deep
variable {H : Type} {enc : TypeId × Value → H} {W : World} {base : Nat}
theorem open_Bytes {v : Value} {d : DataW H} {ps : List MemPlace} (hv : Value.okWide Try.prog W .any base T_sl_uint8 v) (h : DataW.Trod enc Try.prog W 0 (fun _ => true) true T_sl_uint8 v d ps) :
    ∃ p c bs, v = .slice p (List.length bs) c ∧ bs.length ≤ c ∧ bs.length ≤ 9223372036854775807 ∧ Rd W 1 p bs.length (by8 bs) ∧ ∀ b ∈ bs, 0 ≤ b ∧ b ≤ 255 := by
  obtain ⟨p0, l0, c0, rfl⟩ := okWide_slice Try.underlying30 hv
  obtain ⟨fuel, h⟩ := h
  have hf : Try.prog.info? T_uint8 = some (Try.prog.types[T_uint8]'(of_decide_eq_true (by kernel_rfl))) := by kernel_rfl
  obtain ⟨p, l, c, zs, e, hlc, hc, hrd, hrg⟩ := open_nums Try.underlying30 hf (by kernel_rfl) Try.underlying5 h
  cases e
  have hl : zs.length = l0 := Rd.len8 hrd
  subst hl
  exact ⟨p0, c0, zs, rfl, hlc, by simp only [maxLen] at hc; omega, hrd, fun b hb => by have := hrg b hb; simpa [IntKind.min, IntKind.max, IntKind.signed, IntKind.bits] using this⟩
end

theorem decR_in {bs : List Int} (hr : ∀ b ∈ bs, 0 ≤ b ∧ b ≤ 255) : OIn (decR bs).1 := by
  unfold decR
  split
  · exact noX_in
  · split
    · exact decX_in (by omega) hr
    · exact noX_in
end Go.Proofs.Ytkkfhceejhabeaa
