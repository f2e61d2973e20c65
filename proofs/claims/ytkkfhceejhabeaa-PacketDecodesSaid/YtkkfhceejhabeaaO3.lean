/- Contracts of layer 7 (objref): the document's. No conditions. -/
import Derived.Test.YtkkfhceejhabeaaO2
set_option linter.unusedVariables false
set_option linter.unusedSimpArgs false
namespace Go.Proofs.Ytkkfhceejhabeaa
open Go.Sp Go.RowKit

/-! ### the plain law -/
theorem lay_le (xs : List Int) (h : ∀ b ∈ xs, 0 ≤ b ∧ b ≤ 255) : lay (le xs) xs.length = xs := by
  induction xs with
  | nil => rfl
  | cons x xs ih =>
    have h1 := h x (.head _)
    have h2 := ih fun b hb => h b (.tail _ hb)
    have h3 := le_range xs fun b hb => h b (.tail _ hb)
    simp only [le, List.length_cons, lay]
    rw [show (x + 256 * le xs) % 256 = x by omega, show (x + 256 * le xs) / 256 = le xs by omega, h2]
theorem lay_at {bs : List Int} {o n : Nat} (hr : ∀ b ∈ bs, 0 ≤ b ∧ b ≤ 255) (hl : o + n ≤ bs.length) : lay (at_ bs o n) n = (bs.drop o).take n := by
  have h := lay_le ((bs.drop o).take n) fun b hb => hr b (List.mem_of_mem_drop (List.mem_of_mem_take hb))
  have hlen : ((bs.drop o).take n).length = n := by simp; omega
  rw [hlen] at h
  exact h
theorem cuts {bs : List Int} (o n m : Nat) : (bs.drop o).take n ++ (bs.drop (o + n)).take m = (bs.drop o).take (n + m) := by
  rw [List.take_add, List.drop_drop]
theorem encL_eq (x : ORef) : encL x = lay 1464812877 4 ++ (lay x.fl 4 ++ (lay x.rf 4 ++ (lay 0 4 ++ (lay x.ox 8 ++ (lay x.oid 8 ++ x.bs))))) := by
  simp [encL, encH, lay4]
theorem encL_decX {bs : List Int} (hl : bs.length = 64) (hr : ∀ b ∈ bs, 0 ≤ b ∧ b ≤ 255) (h0 : at_ bs 0 4 = 1464812877) (h3 : at_ bs 12 4 = 0) : encL (decX bs) = bs := by
  rw [encL_eq]
  have a0 := lay_at (o := 0) (n := 4) hr (by omega)
  have a1 := lay_at (o := 4) (n := 4) hr (by omega)
  have a2 := lay_at (o := 8) (n := 4) hr (by omega)
  have a3 := lay_at (o := 12) (n := 4) hr (by omega)
  have a4 := lay_at (o := 16) (n := 8) hr (by omega)
  have a5 := lay_at (o := 24) (n := 8) hr (by omega)
  rw [h0] at a0
  rw [h3] at a3
  show lay 1464812877 4 ++ (lay (at_ bs 4 4) 4 ++ (lay (at_ bs 8 4) 4 ++ (lay 0 4 ++ (lay (at_ bs 16 8) 8 ++ (lay (at_ bs 24 8) 8 ++ (bs.drop 32).take 32))))) = bs
  rw [a0, a1, a2, a3, a4, a5, cuts 24 8 32, cuts 16 8 40, cuts 12 4 48, cuts 8 4 52, cuts 4 4 56, cuts 0 4 60]
  rw [List.drop_zero]
  exact List.take_of_length_le (by omega)
theorem at_enc {pre rest : List Int} {n : Int} {k o : Nat} (ho : pre.length = o) (h0 : 0 ≤ n) (h1 : n < 256 ^ k) : at_ (pre ++ (lay n k ++ rest)) o k = n := by
  subst ho
  unfold at_
  rw [List.drop_left, List.take_left' (lay_length _ _), le_lay n k h0 h1]
theorem decX_encL {x : ORef} (hx : OIn x) : decX (encL x) = x ∧ at_ (encL x) 0 4 = 1464812877 ∧ at_ (encL x) 12 4 = 0 := by
  have h1 := hx.fl
  have h2 := hx.rf
  have h3 := hx.ox
  have h4 := hx.oid
  have e := encL_eq x
  have b0 := at_enc (pre := []) (rest := lay x.fl 4 ++ (lay x.rf 4 ++ (lay 0 4 ++ (lay x.ox 8 ++ (lay x.oid 8 ++ x.bs))))) (n := 1464812877) (k := 4) (o := 0) rfl (by decide) (by decide)
  have b1 := at_enc (pre := lay 1464812877 4) (rest := lay x.rf 4 ++ (lay 0 4 ++ (lay x.ox 8 ++ (lay x.oid 8 ++ x.bs)))) (n := x.fl) (k := 4) (o := 4) (by simp [lay_length]) h1.1 (by omega)
  have b2 := at_enc (pre := lay 1464812877 4 ++ lay x.fl 4) (rest := lay 0 4 ++ (lay x.ox 8 ++ (lay x.oid 8 ++ x.bs))) (n := x.rf) (k := 4) (o := 8) (by simp [lay_length]) h2.1 (by omega)
  have b3 := at_enc (pre := lay 1464812877 4 ++ lay x.fl 4 ++ lay x.rf 4) (rest := lay x.ox 8 ++ (lay x.oid 8 ++ x.bs)) (n := 0) (k := 4) (o := 12) (by simp [lay_length]) (by decide) (by decide)
  have b4 := at_enc (pre := lay 1464812877 4 ++ lay x.fl 4 ++ lay x.rf 4 ++ lay 0 4) (rest := lay x.oid 8 ++ x.bs) (n := x.ox) (k := 8) (o := 16) (by simp [lay_length]) h3.1 (by omega)
  have b5 := at_enc (pre := lay 1464812877 4 ++ lay x.fl 4 ++ lay x.rf 4 ++ lay 0 4 ++ lay x.ox 8) (rest := x.bs) (n := x.oid) (k := 8) (o := 24) (by simp [lay_length]) h4.1 (by omega)
  simp only [List.append_assoc, List.nil_append] at b0 b1 b2 b3 b4 b5
  rw [← e] at b0 b1 b2 b3 b4 b5
  refine ⟨?_, b0, b3⟩
  have b6 : ((encL x).drop 32).take 32 = x.bs := by
    rw [encL, List.drop_left' (encH_length x), List.take_of_length_le (by rw [hx.len]; omega)]
  unfold decX
  rw [b1, b2, b4, b5, b6]
theorem okD_iff {bs : List Int} (hl : 64 ≤ bs.length) (hr : ∀ b ∈ bs, 0 ≤ b ∧ b ≤ 255) : okD bs = (rightB (decX bs) && decide (encL (decX bs) = bs)) := by
  have hX := decX_in hl hr
  rw [Bool.eq_iff_iff]
  simp only [okD, Bool.and_eq_true, beq_iff_eq, decide_eq_true_eq]
  constructor
  · rintro ⟨⟨⟨h0, h3⟩, hlen⟩, hR⟩
    exact ⟨hR, encL_decX hlen hr h0 h3⟩
  · rintro ⟨hR, he⟩
    obtain ⟨_, b0, b3⟩ := decX_encL hX
    rw [he] at b0 b3
    have hlen := encL_length hX
    rw [he] at hlen
    exact ⟨⟨⟨b0, b3⟩, hlen⟩, hR⟩

/-! ### the document's calls -/
theorem tenonref07_num_ok {w : World} {p : Option Addr} {c : Nat} {xs : List Int} {l : Nat} (hx : Rd w 1 p l (by8 xs)) (hl : l ≤ 8) (hr : ∀ b ∈ xs, 0 ≤ b ∧ b ≤ 255) :
    PureCall' fn_tenonref07_num #[.slice p l c] w (.int .u64 (le xs)) := by
  have e := hx.len8
  subst e
  apply tenonref07_num_call
  unfold tenonref07_num
  refine arith_i64 (by omega) (by omega) ⟨fun n i w' m => -1 ≤ i ∧ i ≤ (xs.length : Int) - 1 ∧ m = (i + 1).toNat ∧ n = le (xs.drop (i + 1).toNat) ∧ w' = w, ⟨_, by omega, by omega, rfl, ?_, rfl⟩, ?_⟩
  · rw [List.drop_of_length_le (by omega)]; rfl
  rintro u n i w1 m ⟨h0, h1, rfl, rfl, rfl⟩
  refine br_dec (fun hge => ?_) (fun hlt => ?_)
  · have hd := le_range (xs.drop (i + 1).toNat) fun b hb => hr b (List.mem_of_mem_drop hb)
    have hp : (256 : Int) ^ (xs.drop (i + 1).toNat).length ≤ 256 ^ 7 := pow256_le (by rw [List.length_drop]; omega)
    refine arith_u64 (by omega) (by omega) <| idx8 hx hge (by omega) (Same.refl _) fun a x hxa hca => ldI_ok hca ?_
    have hxr := hr x (List.mem_of_getElem? hxa)
    refine arith_u64 (by omega) (by omega) <| arith_u64 (by omega) (by omega) <| arith_i64 (by omega) (by omega) ⟨_, by omega, by omega, by omega, rfl, ?_, rfl⟩
    obtain ⟨hlt, he⟩ := List.getElem?_eq_some_iff.1 hxa
    rw [show (i - 1 + 1).toNat = i.toNat by omega, List.drop_eq_getElem_cons hlt, he, le, show (i + 1).toNat = i.toNat + 1 by omega]
    omega
  · have : i = -1 := by omega
    subst this
    exact ⟨rfl, rfl⟩
theorem tenonref07_Encode_ok {w₀ w : World} {F : HP} {x : ORef} {p : Option Addr} {l c : Nat} {pre : List Int} (h : Sat w₀ F w) (hx : OIn x) (hp : Gives F 1 p l (by8 pre)) (hl : l ≤ 1000000000) (h8 : (l : Int) % 8 = 0) :
    call Try.prog fn_tenonref07_Encode #[.slice p l c, .agg (orF x)] w fun v w' => ∃ q d, v = .slice q (l + 64) d ∧ Sat w₀ (own T_uint8 1 q (l + 64) d (by8 (pre ++ encL x)) * F) w' := by
  apply tenonref07_Encode_call
  unfold tenonref07_Encode
  have e := (hp _ _ h).len8
  subst e
  have h1 := hx.fl
  have h2 := hx.rf
  have h3 := hx.ox
  have h4 := hx.oid
  have hl32 := hx.len
  refine new_ok h fun k w1 h1' => ?_
  have hn := (h1'.own_nil T_uint8 1)
  refine app_ok (m := pre.length) bytesTy hn (Gives.right hp _ _ h1') (by8_one _) (by simp only [maxLen]; omega) (by omega) fun p2 c2 w2 k2 => new_ok k2 fun b3 w3 k3 => ?_
  rw [Nat.zero_add] at k3 ⊢
  refine app_ok (m := 4) bytesTy k3.right (k3.left.rd_ob (l := 4) rfl) (by simp [Value.oneCell']) (by simp only [maxLen]; omega) (by omega) fun p4 c4 w4 k4 => ?_
  have k4 : Sat w₀ (own T_uint8 1 p4 (pre.length + 4) c4 (by8 (pre ++ lay 1464812877 4)) * (blk k (orF x) T_api_Objref * F)) w4 := by
    rw [by8_append]
    exact k4
  refine ldI_ok (k4.right.left.cell (i := 0) rfl) <| arith_u64 (by omega) (by omega) <| call_mono (tenonref05_Num_ok k4 (Gives.left Gives.own) rfl h1.1 (by omega) (by omega)) ?_
  rintro _ w5 ⟨q5, d5, rfl, k5⟩
  rw [form_al (by omega) (by simp [lay_length]; omega)] at k5 ⊢
  have k5 := k5.p1.right
  have e5 : (pre ++ lay 1464812877 4 ++ lay x.fl (4 : Int).toNat).length = pre.length + 8 := by simp [lay_length]
  rw [e5] at k5 ⊢
  refine asS_ok <| ldI_ok (k5.right.left.cell (i := 1) rfl) <| arith_u64 (by omega) (by omega) <| call_mono (tenonref05_Num_ok k5 (Gives.left Gives.own) rfl h2.1 (by omega) (by omega)) ?_
  rintro _ w6 ⟨q6, d6, rfl, k6⟩
  rw [form_al (by omega) (by simp [lay_length]; omega)] at k6 ⊢
  have k6 := k6.p1.right
  have e6 : (pre ++ lay 1464812877 4 ++ lay x.fl (4 : Int).toNat ++ lay x.rf (4 : Int).toNat).length = pre.length + 12 := by simp [lay_length]
  rw [e6] at k6 ⊢
  refine asS_ok <| new_ok k6 fun b7 w7 k7 => ?_
  refine app_ok (m := 4) bytesTy k7.right (k7.left.rd_ob (l := 4) rfl) (by simp [Value.oneCell']) (by simp only [maxLen]; omega) (by omega) fun p8 c8 w8 k8 => ?_
  have k8 : Sat w₀ (own T_uint8 1 p8 (pre.length + 16) c8 (by8 (pre ++ lay 1464812877 4 ++ lay x.fl (4 : Int).toNat ++ lay x.rf (4 : Int).toNat ++ lay 0 4)) * (blk k (orF x) T_api_Objref * F)) w8 := by
    rw [by8_append _ (lay 0 4)]
    exact k8
  refine ldI_ok (k8.right.left.cell (i := 2) rfl) <| call_mono (tenonref05_Num_ok k8 (Gives.left Gives.own) rfl h3.1 (by omega) (by omega)) ?_
  rintro _ w9 ⟨q9, d9, rfl, k9⟩
  rw [form_al (by omega) (by simp [lay_length]; omega)] at k9 ⊢
  have k9 := k9.p1.right
  refine asS_ok <| ldI_ok (k9.right.left.cell (i := 3) rfl) <| call_mono (tenonref05_Num_ok k9 (Gives.left Gives.own) rfl h4.1 (by omega) (by simp [lay_length]; omega)) ?_
  rintro _ w10 ⟨q10, d10, rfl, k10⟩
  rw [form_al (by omega) (by simp [lay_length]; omega)] at k10 ⊢
  have k10 := k10.p1.right
  have e10 : (pre ++ lay 1464812877 4 ++ lay x.fl (4 : Int).toNat ++ lay x.rf (4 : Int).toNat ++ lay 0 4 ++ lay x.ox (8 : Int).toNat ++ lay x.oid (8 : Int).toNat).length = pre.length + 32 := by simp [lay_length]
  rw [e10] at k10 ⊢
  have gv : ∀ {w G} (o : Nat), Sat w₀ (blk k (orF x) T_api_Objref * G) w → o + 16 ≤ 32 → Rd w 1 (some ((⟨k, 0, none⟩ : Addr).add (4 + o))) 16 (by8 ((x.bs.drop o).take 16)) := by
    intro w G o hw ho
    refine ⟨by simp [by8_length]; omega, fun _ => ⟨_, rfl⟩, fun a ea j u hj => ?_⟩
    cases ea
    rw [add_mk, add_mk, Nat.zero_add]
    refine hw.left.cell ?_
    rw [Nat.add_assoc, orF_byte]
    have hj' := (List.getElem?_eq_some_iff.1 hj).1
    rw [by8_length, List.length_take] at hj'
    simp only [by8, List.map_take, List.map_drop, List.getElem?_take, List.getElem?_drop] at hj ⊢
    rw [if_pos (by omega)] at hj
    exact hj
  have sl : ∀ {o : Nat} {K : Option Addr → Nat → Nat → Prop}, K (some ((⟨k, 0, none⟩ : Addr).add (4 + o))) 16 16 → slc (some ((⟨k, 0, none⟩ : Addr).add (4 + o))) 16 1 0 (16 : Int) K := by
    intro o K hk
    refine slc_ok (by omega) (by omega) (by omega) ?_
    have e : (if (16 : Nat) = Int.toNat 0 then some ((⟨k, 0, none⟩ : Addr).add (4 + o)) else (some ((⟨k, 0, none⟩ : Addr).add (4 + o))).map (·.add (Int.toNat 0 * 1))) = some ((⟨k, 0, none⟩ : Addr).add (4 + o)) := by simp [add_zero]
    rw [e]
    exact hk
  refine asS_ok <| sl (o := 0) <| app_ok (m := 16) bytesTy k10 (gv 0 k10.right (by omega)) (by8_one _) (by simp only [maxLen]; omega) (by omega) fun p11 c11 w11 k11 => sl (o := 16) <| app_ok (m := 16) bytesTy k11 (gv 16 k11.right (by omega)) (by8_one _) (by simp only [maxLen]; omega) (by omega) fun p12 c12 w12 k12 => ?_
  refine ⟨p12, c12, rfl, ?_⟩
  have e12 : by8 (pre ++ encL x) = by8 (pre ++ lay 1464812877 4 ++ lay x.fl (4 : Int).toNat ++ lay x.rf (4 : Int).toNat ++ lay 0 4 ++ lay x.ox (8 : Int).toNat ++ lay x.oid (8 : Int).toNat) ++ by8 ((x.bs.drop 0).take 16) ++ by8 ((x.bs.drop 16).take 16) := by
    rw [← by8_append, ← by8_append, List.append_assoc _ ((x.bs.drop 0).take 16), cuts 0 16 16, encL_eq, List.drop_zero, List.take_of_length_le (by omega)]
    simp [List.append_assoc]
  rw [e12]
  exact k12.p1.right
end Go.Proofs.Ytkkfhceejhabeaa
