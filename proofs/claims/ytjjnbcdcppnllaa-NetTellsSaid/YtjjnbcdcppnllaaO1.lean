
/- Contracts of layer 7 (objref): what an Objref is, and its form. No conditions. -/
import Derived.Test.YtjjnbcdcppnllaaW6
import Derived.Test.YtjjnbcdcppnllaaSp9
set_option linter.unusedVariables false
set_option linter.unusedSimpArgs false
set_option maxRecDepth 100000
namespace Go.Proofs.Ytjjnbcdcppnllaa
open Go.Sp Go.RowKit

structure ORef where
  fl : Int
  rf : Int
  ox : Int
  oid : Int
  bs : List Int
def orL (x : ORef) : List Value := [.int .u32 x.fl, .int .u32 x.rf, .int .u64 x.ox, .int .u64 x.oid]
def orF (x : ORef) : Array Value := (orL x ++ by8 x.bs).toArray
structure OIn (x : ORef) : Prop where
  fl : 0 ≤ x.fl ∧ x.fl ≤ 4294967295
  rf : 0 ≤ x.rf ∧ x.rf ≤ 4294967295
  ox : 0 ≤ x.ox ∧ x.ox ≤ 18446744073709551615
  oid : 0 ≤ x.oid ∧ x.oid ≤ 18446744073709551615
  len : x.bs.length = 32
  by_ : ∀ b ∈ x.bs, 0 ≤ b ∧ b ≤ 255
theorem orF_size {x : ORef} (h : OIn x) : (orF x).size = 36 := by simp [orF, orL, by8_length, h.len]
theorem orF_byte {x : ORef} (i : Nat) : (orF x)[4 + i]? = (by8 x.bs)[i]? := by
  simp only [orF, List.getElem?_toArray]
  rw [List.getElem?_append_right (by simp [orL])]
  simp [orL]
theorem ldO {w₀ w : World} {F : HP} {k : Nat} {t : TypeId} {x : ORef} {K : Array Value → Prop} (h : Sat w₀ (blk k (orF x) t * F) w) (hx : OIn x) (hk : K (orF x)) : ldA (⟨k, 0, none⟩ : Addr) 36 w K := by
  refine ldA_ok (orF_size hx) (fun i hi => ?_) hk
  rw [add_mk, Nat.zero_add]
  have : i < (orF x).size := by rw [orF_size hx]; exact hi
  rw [h.left.cell (v := (orF x)[i]) (by simp [this])]
  simp [this]
/-- Half of its bytes. -/
theorem ldG {w₀ w : World} {F : HP} {k : Nat} {t : TypeId} {x : ORef} {K : Array Value → Prop} (h : Sat w₀ (blk k (orF x) t * F) w) (hx : OIn x) (o : Nat) (ho : o + 16 ≤ 32) (hk : K (by8 ((x.bs.drop o).take 16)).toArray) : ldA ((⟨k, 0, none⟩ : Addr).add (4 + o)) 16 w K := by
  have hl := hx.len
  refine ldA_ok (by simp [by8_length]; omega) (fun i hi => ?_) hk
  rw [add_mk, add_mk, Nat.zero_add]
  have e : (orF x)[4 + o + i]? = some (.int .u8 (x.bs[o + i]'(by omega))) := by
    rw [Nat.add_assoc, orF_byte]
    simp [by8, show o + i < x.bs.length by omega]
  rw [h.left.cell e]
  simp [by8, List.getElem?_take, List.getElem?_drop, hi, show o + i < x.bs.length by omega]

def rightB (x : ORef) : Bool := decide (x.fl ≤ 2) && ((x.fl == 0) == decide (x.rf > 0))
theorem objref_Check_ok {w₀ w : World} {F : HP} {x : ORef} (h : Sat w₀ F w) (hx : OIn x) :
    call Try.prog fn_objref_Check #[.agg (orF x)] w fun v w' => v = .int .i64 (if rightB x = true then 0 else 5) ∧ Sat w₀ F w' := by
  apply objref_Check_call
  unfold objref_Check
  refine new_ok h fun k w1 h1 => ldI_ok (h1.left.cell (i := 0) rfl) <| br_dec (fun hgt => ⟨?_, h1.right⟩) (fun hle => ldI_ok (h1.left.cell (i := 0) rfl) <| ldI_ok (h1.left.cell (i := 1) rfl) <| br_split (fun hb => ⟨?_, h1.right⟩) (fun hb => ⟨?_, h1.right⟩))
  · simp [rightB, show ¬ x.fl ≤ 2 by omega]
  · rw [if_neg]
    simp [rightB] at hb ⊢
    exact fun _ => hb
  · rw [if_pos]
    simp [rightB] at hb ⊢
    exact ⟨by omega, hb⟩
theorem tenonref07_Right_ok {w₀ w : World} {F : HP} {x : ORef} (h : Sat w₀ F w) (hx : OIn x) :
    call Try.prog fn_tenonref07_Right #[.agg (orF x)] w fun v w' => v = .bool (rightB x) ∧ Sat w₀ F w' := by
  apply tenonref07_Right_call
  unfold tenonref07_Right
  have h1 := hx.fl
  have h2 := hx.rf
  refine new_ok h fun k w1 h1 => ldI_ok (h1.left.cell (i := 0) rfl) <| br_split (fun h0 => ldI_ok (h1.left.cell (i := 1) rfl) ⟨?_, h1.right⟩) (fun h0 => br_split (fun ha => br_true ha <| ldI_ok (h1.left.cell (i := 1) rfl) ⟨?_, h1.right⟩) (fun ha => br_split (fun hb => ldI_ok (h1.left.cell (i := 1) rfl) ⟨?_, h1.right⟩) (fun hb => ⟨?_, h1.right⟩)))
  · have h0 : x.fl = 0 := by simpa using h0
    simp [rightB, h0]
  · have ha : x.fl = 1 := by simpa using ha
    simp only [rightB, ha]
    congr 1
    rw [Bool.eq_iff_iff]
    simp
    omega
  · have hb : x.fl = 2 := by simpa using hb
    simp only [rightB, hb]
    congr 1
    rw [Bool.eq_iff_iff]
    simp
    omega
  · have h0 : x.fl ≠ 0 := by simpa using h0
    have ha : x.fl ≠ 1 := by simpa using ha
    have hb : x.fl ≠ 2 := by simpa using hb
    simp [rightB, show ¬ x.fl ≤ 2 by omega]

theorem form_al {a : Nat} {n s : Int} (hs : 1 ≤ s) (h : (a : Int) % s = 0) : form a n s = lay n s.toNat := by
  have : gapI a s = 0 := by rw [gapI, h]; simp
  simp [form, this]
/-- Numbers of four bytes each. -/
def lay4 (ns : List Int) : List Int := ns.flatMap (lay · 4)
theorem lay4_length (ns : List Int) : (lay4 ns).length = 4 * ns.length := by
  induction ns with
  | nil => rfl
  | cons n ns ih => simp only [lay4, List.flatMap_cons, List.length_append, lay_length, List.length_cons] at ih ⊢; omega
def encH (x : ORef) : List Int := lay4 [1464812877, x.fl, x.rf, 0] ++ lay x.ox 8 ++ lay x.oid 8
theorem encH_length (x : ORef) : (encH x).length = 32 := by simp [encH, lay4_length, lay_length]
def encL (x : ORef) : List Int := encH x ++ x.bs
theorem encL_length {x : ORef} (h : OIn x) : (encL x).length = 64 := by simp [encL, encH_length, h.len]
theorem lay_one {b : Int} (h0 : 0 ≤ b) (h1 : b ≤ 255) : lay b 1 = [b] := by
  simp [lay]
  omega

theorem objref_Encode_no {w₀ w : World} {F : HP} {x : ORef} (h : Sat w₀ F w) (hx : OIn x) (hr : rightB x = false) :
    call Try.prog fn_objref_Encode #[.agg (orF x)] w fun v w' => v = .tuple #[.slice none 0 0, .int .i64 5] ∧ Sat w₀ F w' := by
  apply objref_Encode_call
  unfold objref_Encode
  refine new_ok h fun k w1 h1 => ldO h1 hx <| call_mono (objref_Check_ok h1 hx) ?_
  rintro _ w2 ⟨rfl, h2⟩
  refine asI_ok <| br_true (by simp [hr]) ⟨by simp [hr], h2.right⟩
theorem objref_Encode_ok {w₀ w : World} {F : HP} {x : ORef} (h : Sat w₀ F w) (hx : OIn x) (hr : rightB x = true) :
    call Try.prog fn_objref_Encode #[.agg (orF x)] w fun v w' => ∃ q d, v = .tuple #[.slice q 64 d, .int .i64 0] ∧ Sat w₀ (own T_uint8 1 q 64 d (by8 (encL x)) * F) w' := by
  apply objref_Encode_call
  unfold objref_Encode
  have hl := hx.len
  refine new_ok h fun k w1 h1 => ldO h1 hx <| call_mono (objref_Check_ok h1 hx) ?_
  rintro _ w2 ⟨rfl, h2⟩
  refine asI_ok <| br_false (by simp [hr]) <| call_mono (wire_NewWriter_ok h2) ?_
  rintro _ w3 ⟨g, rfl, h3⟩
  refine asP_ok <| ldI_ok (h3.right.left.cell (i := 0) rfl) <| ldI_ok (h3.right.left.cell (i := 1) rfl) ⟨fun i w m => ∃ j : Nat, i = j ∧ j ≤ 4 ∧ m = 4 - j ∧ Sat w₀ (Wr g (lay4 (([1464812877, x.fl, x.rf, 0] : List Int).take j)) * (blk k (orF x) T_api_Objref * F)) w, ⟨_, 0, rfl, by omega, rfl, h3⟩, ?_⟩
  rintro u _ w4 m ⟨j, rfl, hj, rfl, h4⟩
  refine br_dec (fun hlt => ⟨by omega, ?_⟩) (fun hge => ?_)
  · have step : ∀ n, ([1464812877, x.fl, x.rf, 0] : List Int)[j]? = some n → 0 ≤ n → n ≤ 4294967295 →
        call Try.prog fn_wire_Writer_Num #[.pointer (some ⟨g, 0, none⟩), .int .u64 n, .int .i64 4] w4 fun v16 w5 => asI .i64 v16 fun n17 => arith .i64 ((j : Int) + 1) fun n18 => ∃ m19, m19 < 4 - j ∧ ∃ i : Nat, n18 = i ∧ i ≤ 4 ∧ m19 = 4 - i ∧ Sat w₀ (Wr g (lay4 (([1464812877, x.fl, x.rf, 0] : List Int).take i)) * (blk k (orF x) T_api_Objref * F)) w5 := by
      intro n hn n0 n1
      have hlen := lay4_length (([1464812877, x.fl, x.rf, 0] : List Int).take j)
      have htk : (([1464812877, x.fl, x.rf, 0] : List Int).take j).length = j := by simp; omega
      rw [htk] at hlen
      refine call_mono (wire_Num_ok h4 rfl n0 (by show n < 256 ^ 4; omega) (by omega)) ?_
      rintro _ w5 ⟨rfl, h5⟩
      refine asI_ok <| arith_i64 (by omega) (by omega) ⟨_, by omega, j + 1, by omega, by omega, rfl, ?_⟩
      rw [List.take_add_one, hn, lay4, List.flatMap_append]
      rw [form_al (by omega) (by omega)] at h5
      simpa [lay4] using h5
    have hfl := hx.fl
    have hrf := hx.rf
    have : j = 0 ∨ j = 1 ∨ j = 2 ∨ j = 3 := by omega
    rcases this with rfl | rfl | rfl | rfl
    · exact ⟨_, rfl, arith_u64 (by omega) (by omega) <| step _ rfl (by omega) (by omega)⟩
    · exact ⟨_, rfl, arith_u64 (by omega) (by omega) <| step _ rfl (by omega) (by omega)⟩
    · exact ⟨_, rfl, arith_u64 (by omega) (by omega) <| step _ rfl (by omega) (by omega)⟩
    · exact ⟨_, rfl, arith_u64 (by omega) (by omega) <| step _ rfl (by omega) (by omega)⟩
  · have e4 : j = 4 := by omega
    subst e4
    rw [List.take_of_length_le (by simp)] at h4
    have l4 := lay4_length [1464812877, x.fl, x.rf, 0]
    simp only [List.length_cons, List.length_nil] at l4
    have hox := hx.ox
    have hoid := hx.oid
    refine ldI_ok (h4.right.left.cell (i := 2) rfl) <| call_mono (wire_Num_ok h4 rfl hox.1 (by show x.ox < 256 ^ 8; omega) (by omega)) ?_
    rintro _ w5 ⟨rfl, h5⟩
    rw [form_al (by omega) (by omega)] at h5
    refine asI_ok <| ldI_ok (h5.right.left.cell (i := 3) rfl) <| call_mono (wire_Num_ok h5 rfl hoid.1 (by show x.oid < 256 ^ 8; omega) (by simp [lay_length]; omega)) ?_
    rintro _ w6 ⟨rfl, h6⟩
    rw [form_al (by omega) (by simp [lay_length]; omega)] at h6
    have h6 : Sat w₀ (Wr g (encH x) * (blk k (orF x) T_api_Objref * F)) w6 := h6
    have hH := encH_length x
    refine asI_ok <| ldG h6.right hx 0 (by omega) <| ldG h6.right hx 16 (by omega) ⟨by simp [by8_length]; omega, by simp [by8_length]; omega, ?_⟩
    have hgl : ((#[] ++ (by8 ((x.bs.drop 0).take 16)).toArray) ++ (by8 ((x.bs.drop 16).take 16)).toArray) = (by8 x.bs).toArray := by
      apply Array.ext'
      have : x.bs.take 16 ++ (x.bs.drop 16).take 16 = x.bs := by
        rw [List.take_of_length_le (l := x.bs.drop 16) (by simp; omega), List.take_append_drop]
      simp only [List.drop_zero, Array.toList_append, Array.empty_append]
      rw [← by8_append, this]
    rw [hgl]
    refine ⟨fun i w m => ∃ j : Nat, i = j ∧ j ≤ 2 ∧ m = 2 - j ∧ Sat w₀ (Wr g (encH x ++ x.bs.take (16 * j)) * (blk k (orF x) T_api_Objref * F)) w, ⟨_, 0, rfl, by omega, rfl, by simpa using h6⟩, ?_⟩
    rintro u _ w7 m ⟨j, rfl, hj, rfl, h7⟩
    refine br_dec (fun hlt => ⟨by omega, ?_⟩) (fun hge => ?_)
    · have hex : (by8 x.bs).toArray.extract (Int.toNat (j : Int) * 16) (Int.toNat (j : Int) * 16 + 16) = (by8 ((x.bs.drop (16 * j)).take 16)).toArray := by
        apply Array.ext'
        simp [by8, List.extract_eq_take_drop, Nat.mul_comm, List.map_take, List.map_drop]
      rw [hex]
      refine new_ok h7 fun k2 w8 h8 => stA_ok h8 rfl (by simp [by8_length]; omega) (by simpa using by8_one _) fun w9 h9 => ?_
      have hsz : ((x.bs.drop (16 * j)).take 16).length = 16 := by simp; omega
      refine ldA_ok (vs := (by8 ((x.bs.drop (16 * j)).take 16)).toArray) (by simp [by8_length]; omega) (fun i hi => ?_) ?_
      · rw [add_mk, Nat.zero_add]
        have : i < (by8 ((x.bs.drop (16 * j)).take 16)).toArray.size := by simp [by8_length]; omega
        rw [h9.left.cell (v := ((by8 ((x.bs.drop (16 * j)).take 16)).toArray)[i]) (by simp only [Array.getElem?_eq_getElem this])]
        simp only [Array.getElem?_eq_getElem this]
      · refine ⟨fun i w m => ∃ q : Nat, i = q ∧ q ≤ 16 ∧ m = 16 - q ∧ Sat w₀ (Wr g (encH x ++ x.bs.take (16 * j + q)) * (blk k2 (by8 ((x.bs.drop (16 * j)).take 16)).toArray T_api_Guid * (blk k (orF x) T_api_Objref * F))) w, ⟨_, 0, rfl, by omega, rfl, h9.p1⟩, ?_⟩
        rintro u _ w10 m ⟨q, rfl, hq, rfl, h10⟩
        refine br_dec (fun hlt2 => ⟨by omega, ?_⟩) (fun hge2 => ?_)
        · have hb : x.bs[16 * j + q]? = some (x.bs[16 * j + q]'(by omega)) := by simp [show 16 * j + q < x.bs.length by omega]
          generalize x.bs[16 * j + q]'(by omega) = b at hb
          have hbr := hx.by_ b (List.mem_of_getElem? hb)
          refine ⟨b, ?_, arith_u64 (by omega) (by omega) <| call_mono (wire_Num_ok h10 rfl hbr.1 (by show b < 256 ^ 1; omega) (by simp; omega)) ?_⟩
          · simp only [Int.toNat_natCast, Nat.mul_one, List.getElem?_toArray, by8, List.getElem?_map]
            rw [List.getElem?_take, if_pos (by omega), List.getElem?_drop, hb]
            rfl
          · rintro _ w11 ⟨rfl, h11⟩
            rw [form_al (by omega) (by omega)] at h11
            refine asI_ok <| arith_i64 (by omega) (by omega) ⟨_, by omega, q + 1, by omega, by omega, rfl, ?_⟩
            have e : x.bs.take (16 * j + (q + 1)) = x.bs.take (16 * j + q) ++ lay b 1 := by
              rw [← Nat.add_assoc, List.take_add_one, hb, lay_one hbr.1 hbr.2]
              rfl
            rw [e, ← List.append_assoc]
            exact h11
        · have : q = 16 := by omega
          subst this
          exact arith_i64 (by omega) (by omega) ⟨_, by omega, j + 1, by omega, by omega, rfl, h10.p1.right⟩
    · have : j = 2 := by omega
      subst this
      rw [List.take_of_length_le (by omega)] at h7
      have h7 : Sat w₀ (Wr g (encL x) * (blk k (orF x) T_api_Objref * F)) w7 := h7
      have hL := encL_length hx
      refine call_mono (wire_Bytes_ok h7 (by omega)) ?_
      rintro _ w8 ⟨q, d, rfl, h8⟩
      rw [hL] at h8 ⊢
      exact asS_ok ⟨q, d, rfl, h8.p1.right.p1.right⟩
end Go.Proofs.Ytjjnbcdcppnllaa
