/- Packets: the document's reading; PacketDecodes. No conditions. -/
import Derived.Test.YtkkfhceejhabeaaP10
set_option linter.unusedVariables false
set_option linter.unusedSimpArgs false
set_option linter.unusedSectionVars false
set_option maxRecDepth 100000
namespace Go.Proofs.Ytkkfhceejhabeaa
open Go.Sp Go.RowKit

/-! ### what stands where, in a form -/
def numV (bs : List Int) (o : Nat) : Int := if o + 8 ≤ bs.length then at_ bs o 8 else 0
theorem numV_range {bs : List Int} {o : Nat} (hr : ∀ b ∈ bs, 0 ≤ b ∧ b ≤ 255) : 0 ≤ numV bs o ∧ numV bs o ≤ 18446744073709551615 := by
  unfold numV
  split
  · have := at_range (o := o) (n := 8) hr
    have h2 : at_ bs o 8 < 18446744073709551616 := this.2
    omega
  · decide
theorem Pre.num {fs : List (Int × Int)} {n : Int} {bs : List Int} {L o : Nat} (h : Pre (fs ++ [(n, 8)]) bs) (hL : (encN fs []).length = L) (ho : o = L + (gapI L 8).toNat) (h0 : 0 ≤ n) (h1 : n ≤ 18446744073709551615) : numV bs o = n := by
  obtain ⟨t, rfl⟩ := h
  have hlen := len8 (fs := fs) (n := n) hL
  unfold numV
  rw [if_pos (by rw [List.length_append, hlen]; omega), encN_snoc, hL, form, ← List.append_assoc, List.append_assoc]
  exact at_enc (by rw [List.length_append, hL, List.length_replicate, ho]) h0 (by show n < 18446744073709551616; omega)
theorem Pre.len {fs : List (Int × Int)} {bs : List Int} (h : Pre fs bs) : (encN fs []).length ≤ bs.length := by
  obtain ⟨t, rfl⟩ := h
  rw [List.length_append]
  omega
section
variable {y : PK} (hy : PIn y) (hr : RightP y)
include hy hr
theorem l1 : (encN (A1 y) []).length = 16 := len8 (L := 3) (by rw [encA0 hr]; rfl)
theorem at1 (k1 : y.kd = 1) : A2 y = A1 y ++ [(y.cl, 8)] ∧ (encN (A2 y) []).length = 24 ∧ encN (A3 y) [] = encN (A2 y) [] ++ y.ip ∧ encN (A4 y) [] = encN (A3 y) [] ++ [y.md] ∧ (encN (A3 y) []).length = 40 ∧ A6 y = A4 y ++ [(un y.n, 8)] ∧ (encN (A4 y) []).length = 41 ∧ A7 y = A6 y ++ [((y.rs.length : Int), 8)] ∧ (encN (A6 y) []).length = 56 ∧ (encN (A7 y) []).length = 64 := by
  have a2 : A2 y = A1 y ++ [(y.cl, 8)] := by rw [A2, if_pos (by rw [k1]; rfl)]
  have a3 : A3 y = A2 y ++ y.ip.map (·, 1) := by rw [A3, if_pos (by rw [k1]; rfl)]
  have a4 : A4 y = A3 y ++ [(y.md, 1)] := by rw [A4, if_pos (by rw [k1]; rfl)]
  have a5 : A5 y = A4 y := by rw [A5, if_neg (by rw [k1]; decide)]
  have a6 : A6 y = A4 y ++ [(un y.n, 8)] := by rw [A6, if_pos (by rw [k1]; rfl), a5]
  have a7 : A7 y = A6 y ++ [((y.rs.length : Int), 8)] := by rw [A7, if_pos (by rw [k1]; rfl)]
  have hmd : 0 ≤ y.md ∧ y.md ≤ 7 := by unfold RightP at hr; omega
  have b3 : encN (A3 y) [] = encN (A2 y) [] ++ y.ip := by rw [a3, encN_append, encN_bytes hy.by_]
  have b4 : encN (A4 y) [] = encN (A3 y) [] ++ [y.md] := by rw [a4, encN_snoc, form_one (by omega) (by omega)]
  have L2 : (encN (A2 y) []).length = 24 := by rw [a2]; exact len8 (L := 16) (l1 hy hr)
  have L3 : (encN (A3 y) []).length = 40 := by rw [b3, List.length_append, L2, hy.ip]
  have L4 : (encN (A4 y) []).length = 41 := by rw [b4, List.length_append, L3]; rfl
  have L6 : (encN (A6 y) []).length = 56 := by rw [a6]; exact len8 (L := 41) L4
  have L7 : (encN (A7 y) []).length = 64 := by rw [a7]; exact len8 (L := 56) L6
  exact ⟨a2, L2, b3, b4, L3, a6, L4, a7, L6, L7⟩
theorem at2 (k2 : y.kd = 2) : A2 y = A1 y ++ [(y.cl, 8)] ∧ (encN (A2 y) []).length = 24 ∧ encN (A5 y) [] = encN (A2 y) [] ++ [y.cd] ∧ A6 y = A5 y ++ [(un y.n, 8)] ∧ (encN (A5 y) []).length = 25 ∧ (encN (A6 y) []).length = 40 := by
  have a2 : A2 y = A1 y ++ [(y.cl, 8)] := by rw [A2, if_pos (by rw [k2]; rfl)]
  have a3 : A3 y = A2 y := by rw [A3, if_neg (by rw [k2]; decide)]
  have a4 : A4 y = A3 y := by rw [A4, if_neg (by rw [k2]; decide)]
  have a5 : A5 y = A4 y ++ [(y.cd, 1)] := by rw [A5, if_pos (by rw [k2]; rfl)]
  have a6 : A6 y = A5 y ++ [(un y.n, 8)] := by rw [A6, if_pos (by rw [k2]; rfl)]
  have hcd : 0 ≤ y.cd ∧ y.cd ≤ 20 := by unfold RightP at hr; omega
  have L2 : (encN (A2 y) []).length = 24 := by rw [a2]; exact len8 (L := 16) (l1 hy hr)
  have b5 : encN (A5 y) [] = encN (A2 y) [] ++ [y.cd] := by rw [a5, encN_snoc, form_one (by omega) (by omega), a4, a3]
  have L5 : (encN (A5 y) []).length = 25 := by rw [b5, List.length_append, L2]; rfl
  have L6 : (encN (A6 y) []).length = 40 := by rw [a6]; exact len8 (L := 25) L5
  exact ⟨a2, L2, b5, a6, L5, L6⟩
theorem at34 (k : y.kd = 3 ∨ y.kd = 4) : encN (A5 y) [] = encN (A1 y) [] ++ y.ip ∧ A6 y = A5 y ++ [(un y.n, 8)] ∧ (encN (A5 y) []).length = 32 := by
  have a2 : A2 y = A1 y := by rw [A2, if_neg (by rcases k with h | h <;> rw [h] <;> decide)]
  have a3 : A3 y = A2 y ++ y.ip.map (·, 1) := by rw [A3, if_pos (by rcases k with h | h <;> rw [h] <;> rfl)]
  have a4 : A4 y = A3 y := by rw [A4, if_neg (by rcases k with h | h <;> rw [h] <;> decide)]
  have a5 : A5 y = A4 y := by rw [A5, if_neg (by rcases k with h | h <;> rw [h] <;> decide)]
  have a6 : A6 y = A5 y ++ [(un y.n, 8)] := by rw [A6, if_pos (by rcases k with h | h <;> rw [h] <;> rfl)]
  have b5 : encN (A5 y) [] = encN (A1 y) [] ++ y.ip := by rw [a5, a4, a3, encN_append, encN_bytes hy.by_, a2]
  exact ⟨b5, a6, by rw [b5, List.length_append, l1 hy hr, hy.ip]⟩
end
section
variable {w₀ w : World} {F : HP} {p : Option Addr} {l c : Nat} {bs : List Int}
theorem Read_far {o : Nat} (h8 : o % 8 = 0) (ho : o ≤ 1000) (hlt : bs.length < o + 8) : PureCall' fn_tenonref05_Read #[.slice p bs.length c, .int .i64 o, .int .i64 8] w (.tuple #[.int .u64 0, .int .i64 o, .int .i64 6]) := by
  apply tenonref05_Read_call
  unfold tenonref05_Read
  refine call_pure (tenonref05_Fits_ok 8) <| asB_ok <| br_false rfl ⟨fun k w' n => k = o ∧ w' = w, ⟨0, rfl, rfl⟩, ?_⟩
  rintro u _ w1 n ⟨rfl, rfl⟩
  have e : (o : Int).tmod 8 = 0 := by
    rw [Int.tmod_eq_emod_of_nonneg (by omega)]
    omega
  refine ⟨by decide, br_false (by rw [e]; rfl) <| arith_i64 (by omega) (by omega) <| br_true (by simp; omega) ⟨rfl, rfl⟩⟩
theorem tenonref08_num_ok {o : Nat} (hx : Rd w 1 p bs.length (by8 bs)) (h8 : o % 8 = 0) (ho : o ≤ 1000) (hb : bs.length ≤ 140737488355328) (hr : ∀ b ∈ bs, 0 ≤ b ∧ b ≤ 255) :
    PureCall' fn_tenonref08_num #[.slice p bs.length c, .int .i64 o] w (.int .u64 (numV bs o)) := by
  apply tenonref08_num_call
  unfold tenonref08_num
  by_cases hlt : bs.length < o + 8
  · refine call_pure' (Read_far h8 ho hlt) ⟨_, _, _, rfl, br_true rfl ⟨?_, rfl⟩⟩
    rw [numV, if_neg (by omega)]
  · refine call_pure' (tenonref05_Read_ok (size := 8) hx (by omega) hb hr) ⟨_, _, _, rfl, ?_⟩
    rw [readR_al rfl (by omega) (by show o + 8 ≤ _; omega)]
    refine br_false rfl ⟨?_, rfl⟩
    rw [numV, if_pos (by omega)]
    rfl
theorem tenonref08_guid_ok {o : Nat} (h : Sat w₀ F w) (gx : Gives F 1 p bs.length (by8 bs)) (ho : o ≤ 1000) (hb : bs.length ≤ 140737488355328) (hr : ∀ b ∈ bs, 0 ≤ b ∧ b ≤ 255) :
    call Try.prog fn_tenonref08_guid #[.slice p bs.length c, .int .i64 o] w fun v w' => ∃ g : List Int, v = .agg (by8 g).toArray ∧ g.length = 16 ∧ (∀ b ∈ g, 0 ≤ b ∧ b ≤ 255) ∧ (o + 16 ≤ bs.length → g = (bs.drop o).take 16) ∧ Sat w₀ F w' := by
  apply tenonref08_guid_call
  unfold tenonref08_guid
  refine new_ok h fun k1 w1 h1 => new_ok h1 fun k2 w2 h2 => ?_
  have h2 : Sat w₀ (blk k2 (by8 z16).toArray 24 * (blk k1 (by8 z16).toArray 24 * F)) w2 := h2
  have out : ∀ {w : World} {g : List Int}, Sat w₀ (blk k2 (by8 g).toArray 24 * (blk k1 (by8 z16).toArray 24 * F)) w → g.length = 16 → (∀ b ∈ g, 0 ≤ b ∧ b ≤ 255) → (o + 16 ≤ bs.length → g = (bs.drop o).take 16) →
      ldA (⟨k2, 0, none⟩ : Addr) 16 w fun g15 => stA Try.prog (⟨k1, 0, none⟩ : Addr) 16 g15 w fun w5 => ldA (⟨k1, 0, none⟩ : Addr) 16 w5 fun g16 => ∃ g : List Int, Value.agg g16 = .agg (by8 g).toArray ∧ g.length = 16 ∧ (∀ b ∈ g, 0 ≤ b ∧ b ≤ 255) ∧ (o + 16 ≤ bs.length → g = (bs.drop o).take 16) ∧ Sat w₀ F w5 := by
    intro w g hw hl hg he
    exact ldA_blk0 hw (by simp [by8_length, hl]) <| stA_ok hw.p1 rfl (by simp [by8_length, hl]) (by simpa using by8_one g) fun w5 h5 => ldA_blk0 h5 (by simp [by8_length, hl]) ⟨g, rfl, hl, hg, he, h5.right.right⟩
  refine ⟨fun i w m => ∃ (j : Nat) (g : List Int), i = j ∧ j ≤ 16 ∧ m = 16 - j ∧ g.length = 16 ∧ (∀ b ∈ g, 0 ≤ b ∧ b ≤ 255) ∧ (∀ q, q < j → g[q]? = bs[o + q]?) ∧ Sat w₀ (blk k2 (by8 g).toArray 24 * (blk k1 (by8 z16).toArray 24 * F)) w, ⟨_, 0, z16, rfl, by omega, rfl, rfl, by decide, fun q hq => by omega, h2⟩, ?_⟩
  rintro u _ w3 m ⟨j, g, rfl, hj, rfl, hg, rg, hq, h3⟩
  refine br_dec (fun hlt => arith_i64 (by omega) (by omega) <| br_dec (fun hin => ?_) (fun hout => out h3 hg rg fun h => by omega)) (fun hge => out h3 hg rg fun h => ?_)
  · refine arith_i64 (by omega) (by omega) <| idx8 (gx _ _ h3.right.right) (by omega) (by omega) (Same.refl _) fun a x hxa hca => ldI_ok hca ⟨⟨by omega, by omega⟩, ?_⟩
    rw [add_mk, Nat.zero_add, Int.toNat_natCast, Nat.mul_one]
    rw [show ((o : Int) + j).toNat = o + j by omega] at hxa
    refine st_ok (i := j) h3 (by simp [by8_length, hg]; omega) fun w4 h4 => ?_
    have e : (by8 g).toArray.setIfInBounds j (.int .u8 x) = (by8 (g.set j x)).toArray := by
      apply Array.ext'
      rw [Array.toList_setIfInBounds, by8_set]
    rw [e] at h4
    refine arith_i64 (by omega) (by omega) ⟨_, by omega, j + 1, g.set j x, by omega, by omega, rfl, by rw [List.length_set]; exact hg, fun b hb => ?_, fun q hq2 => ?_, h4⟩
    · rcases List.mem_or_eq_of_mem_set hb with hb | rfl
      · exact rg b hb
      · exact hr _ (List.mem_of_getElem? hxa)
    · by_cases e : q = j
      · subst e
        rw [List.getElem?_set_self (by omega), hxa]
      · rw [List.getElem?_set_ne (by omega)]
        exact hq q (by omega)
  · have : j = 16 := by omega
    subst this
    apply List.ext_getElem?
    intro q
    rw [List.getElem?_take]
    split
    · rw [List.getElem?_drop]
      exact hq q (by omega)
    · exact List.getElem?_eq_none (by omega)
theorem refP_Decode_ok (h : Sat w₀ F w) (gx : Gives F 1 p l (by8 bs)) (hc : l ≤ c) (hb : l ≤ 140737488355328) (hr : ∀ b ∈ bs, 0 ≤ b ∧ b ≤ 255) :
    call Try.prog fn_tenonref08_Decode #[.slice p l c] w fun v w' => ∃ y q m d b G, v = .tuple #[.agg (pkF y (.slice q m d)), .bool b] ∧ PIn y ∧ m ≤ 1 ∧ Gives G 36 q m (y.rs.flatMap orC) ∧ Sat w₀ (G * F) w' ∧
      ((b = true ∧ Form bs y ∧ ∀ y', Form bs y' → y' = y) ∨ (b = false ∧ y = pk0 ∧ ∀ y', ¬ Form bs y')) := by
  apply tenonref08_Decode_call
  unfold tenonref08_Decode
  have hl := (gx _ _ h).len8
  subst hl
  have pin0 : PIn pk0 := ⟨⟨by decide, by decide⟩, ⟨by decide, by decide⟩, ⟨by decide, by decide⟩, ⟨by decide, by decide⟩, ⟨by decide, by decide⟩, rfl, by decide, ⟨by decide, by decide⟩, ⟨by decide, by decide⟩, ⟨by decide, by decide⟩⟩
  refine new_ok h fun k1 w1 h1 => ?_
  have h1 : Sat w₀ (blk k1 (pkF pk0 (.slice none 0 0)) T_api_Packet * F) w1 := h1
  have none_ : ∀ {w : World} {A : HP}, Sat w₀ (A * (blk k1 (pkF pk0 (.slice none 0 0)) T_api_Packet * F)) w → (∀ y', ¬ Form bs y') →
      stA Try.prog (⟨k1, 0, none⟩ : Addr) 25 (pkF pk0 (.slice none 0 0)) w fun w40 => ldA (⟨k1, 0, none⟩ : Addr) 25 w40 fun g79 =>
        ∃ y q m d b G, Value.tuple #[.agg g79, .bool false] = .tuple #[.agg (pkF y (.slice q m d)), .bool b] ∧ PIn y ∧ m ≤ 1 ∧ Gives G 36 q m (y.rs.flatMap orC) ∧ Sat w₀ (G * F) w40 ∧ ((b = true ∧ Form bs y ∧ ∀ y', Form bs y' → y' = y) ∨ (b = false ∧ y = pk0 ∧ ∀ y', ¬ Form bs y')) := by
    intro w A hw hno
    refine stA_ok hw.right rfl rfl pk_one fun w40 h40 => ldPk h40 rfl ⟨pk0, none, 0, 0, false, emp, rfl, pin0, by omega, Gives.nil _ _ _, h40.right.with_emp, .inr ⟨rfl, rfl, hno⟩⟩
  refine br_dec (fun hlt => none_ (A := emp) h1.with_emp fun y' hy' => ?_) (fun hge => ?_)
  · have := encP_16 hy'.right
    rw [hy'.enc] at this
    omega
  have hd := h1.drew
  obtain ⟨a, rfl⟩ := (gx _ _ h).2.1 (by omega)
  have cel : ∀ {w : World} {A : HP} (i : Nat) {x : Int}, Sat w₀ (A * F) w → bs[i]? = some x → w.cell? (a.add (i * 1)) = some (.int .u8 x) := fun i x hS hx => by
    rw [Nat.mul_one]
    exact (gx _ _ hS.right).get rfl (by8_get hx)
  have byt : ∀ (i : Nat), i < bs.length → ∃ x, bs[i]? = some x ∧ 0 ≤ x ∧ x ≤ 255 := fun i hi => ⟨bs[i], by simp [hi], hr _ (List.getElem_mem hi)⟩
  obtain ⟨n1, E1, q1, q1'⟩ := byt 0 (by omega)
  obtain ⟨n2, E2, q2, q2'⟩ := byt 1 (by omega)
  obtain ⟨n3, E3, q3, q3'⟩ := byt 2 (by omega)
  have num : ∀ {w : World} {A : HP} {K : Value → World → Prop} (o : Nat), Sat w₀ (A * F) w → o % 8 = 0 → o ≤ 1000 → K (.int .u64 (numV bs o)) w → call Try.prog fn_tenonref08_num #[.slice (some a) bs.length c, .int .i64 o] w K := fun o hS h8 ho hk => call_pure' (tenonref08_num_ok (gx _ _ hS.right) h8 ho hb hr) hk
  obtain ⟨q4, q4'⟩ := numV_range (o := 8) hr
  let X : Int → List Int → Int → Int → Int → List OR → PK := fun cl ip md n cd rs => ⟨n1, n2, n3, numV bs 8, cl, ip, md, n, cd, rs⟩
  have st0 : ∀ {w : World} {k : Nat}, Sat w₀ (blk k (pkF pk0 (.slice none 0 0)) T_api_Packet * (blk k1 (pkF pk0 (.slice none 0 0)) T_api_Packet * F)) w → ∀ {K : World → Prop}, (∀ w', Sat w₀ (blk k (pkF (X 0 z16 0 0 0 []) (.slice none 0 0)) T_api_Packet * (blk k1 (pkF pk0 (.slice none 0 0)) T_api_Packet * F)) w' → K w') → stA Try.prog (⟨k, 0, none⟩ : Addr) 25 (pkF (X 0 z16 0 0 0 []) (.slice none 0 0)) w K := fun hw K hk => stA_ok hw rfl rfl pk_one hk
  refine ⟨fun b w => ∃ k, b = ⟨k, 0, none⟩ ∧ Sat w₀ (blk k (pkF (X 0 z16 0 0 0 []) (.slice none 0 0)) T_api_Packet * (blk k1 (pkF pk0 (.slice none 0 0)) T_api_Packet * F)) w, ?_, ?_⟩
  · refine ⟨⟨by omega, by omega⟩, ldI_ok (cel 0 hd E1) <| arith_i64 (by omega) (by omega) ⟨⟨by omega, by omega⟩, ldI_ok (cel 1 hd E2) <| arith_i64 (by omega) (by omega) ⟨⟨by omega, by omega⟩, ldI_ok (cel 2 hd E3) <| arith_i64 (by omega) (by omega) ⟨?_, ?_⟩⟩⟩⟩
    · exact num 8 hd (by decide) (by decide) <| asI_ok ⟨cel 2 hd E3, cel 1 hd E2, cel 0 hd E1, new_ok hd fun k15 w4 h4 => st0 h4 fun w5 h5 => ⟨k15, rfl, h5⟩⟩
    · refine new_ok hd fun k16 w6 h6 => ?_
      have h6' : Sat w₀ ((blk k16 (pkF pk0 (.slice none 0 0)) T_api_Packet * blk k1 (pkF pk0 (.slice none 0 0)) T_api_Packet) * F) w6 := (h6 : Sat w₀ (blk k16 (pkF pk0 (.slice none 0 0)) T_api_Packet * _) w6).perm (by ac_rfl)
      exact num 8 h6' (by decide) (by decide) <| asI_ok ⟨cel 2 h6' E3, cel 1 h6' E2, cel 0 h6' E1, st0 h6 fun w5 h5 => ⟨k16, rfl, h5⟩⟩
  rintro u _ w9 ⟨k, rfl, h9⟩
  have I1 : ∀ y, Form bs y → y.kd = n1 ∧ y.fr = n2 ∧ y.to = n3 ∧ y.sq = numV bs 8 := by
    intro y hy
    have e8 := Pre.num (fs := A0 y) (n := y.sq) (L := 3) (o := 8) hy.p1 (by rw [encA0 hy.right]; rfl) rfl hy.pin.sq.1 hy.pin.sq.2
    obtain ⟨t, e⟩ := hy.p1
    rw [A1, encN_snoc, encA0 hy.right] at e
    rw [e] at E1 E2 E3
    simp at E1 E2 E3
    exact ⟨E1, E2, E3, e8.symm⟩
  refine ⟨fun w => ∃ (x : PK) (q : Option Addr) (m d : Nat) (G : HP), Sat w₀ (blk k (pkF x (.slice q m d)) T_api_Packet * (G * (blk k1 (pkF pk0 (.slice none 0 0)) T_api_Packet * F))) w ∧ Gives G 36 q m (x.rs.flatMap orC) ∧ m ≤ 1 ∧ PIn x ∧ ∀ y, Form bs y → y = x, ?_, ?_⟩
  · have pinX : ∀ {cl ip md n cd rs}, u64 cl → ip.length = 16 → (∀ b ∈ ip, 0 ≤ b ∧ b ≤ 255) → i64 md → i64 n → i64 cd → PIn (X cl ip md n cd rs) := fun a1 a2 a3 a4 a5 a6 => ⟨⟨by show _ ≤ n1; omega, by show n1 ≤ _; omega⟩, ⟨by show _ ≤ n2; omega, by show n2 ≤ _; omega⟩, ⟨by show _ ≤ n3; omega, by show n3 ≤ _; omega⟩, ⟨q4, q4'⟩, a1, a2, a3, a4, a5, a6⟩
    have i0 : i64 0 := ⟨by decide, by decide⟩
    have u0 : u64 0 := ⟨by decide, by decide⟩
    have rz : ∀ b ∈ z16, 0 ≤ b ∧ b ≤ 255 := by decide
    have nV : ∀ o, u64 (numV bs o) := fun o => numV_range hr
    -- a state without references
    have stt : ∀ {w : World} {cl ip md n cd}, Sat w₀ (blk k (pkF (X cl ip md n cd []) (.slice none 0 0)) T_api_Packet * (blk k1 (pkF pk0 (.slice none 0 0)) T_api_Packet * F)) w → PIn (X cl ip md n cd []) → (∀ y, Form bs y → y = X cl ip md n cd []) →
        ∃ (x : PK) (q : Option Addr) (m d : Nat) (G : HP), Sat w₀ (blk k (pkF x (.slice q m d)) T_api_Packet * (G * (blk k1 (pkF pk0 (.slice none 0 0)) T_api_Packet * F))) w ∧ Gives G 36 q m (x.rs.flatMap orC) ∧ m ≤ 1 ∧ PIn x ∧ ∀ y, Form bs y → y = x :=
      fun hw hp hu => ⟨_, none, 0, 0, emp, (hw.with_emp).perm (by ac_rfl), Gives.nil _ _ _, by omega, hp, hu⟩
    have up : ∀ {w : World} {x : PK} {v : Value}, Sat w₀ (blk k (pkF x v) T_api_Packet * (blk k1 (pkF pk0 (.slice none 0 0)) T_api_Packet * F)) w → Sat w₀ ((blk k (pkF x v) T_api_Packet * blk k1 (pkF pk0 (.slice none 0 0)) T_api_Packet) * F) w := fun h => h.perm (by ac_rfl)
    refine ldI_ok (cell_blk h9 (i := 0) rfl) <| br_split (fun kk => ?_) (fun kk => ?_)
    · have kk : n1 = 1 := by simpa using kk
      refine br_dec (fun hlt => none_ h9 fun y hy => ?_) (fun h64 => ?_)
      · have a := at1 hy.pin hy.right ((I1 y hy).1.trans kk)
        have := hy.p7.len
        omega
      refine num 16 (up h9) (by decide) (by decide) <| asI_ok <| st_ok (i := 4) h9 (pk_lt (by decide)) fun w12 h12 => ?_
      rw [pk_set 4 (by omega)] at h12
      have h12 : Sat w₀ (blk k (pkF (X (numV bs 16) z16 0 0 0 []) (.slice none 0 0)) T_api_Packet * (blk k1 (pkF pk0 (.slice none 0 0)) T_api_Packet * F)) w12 := h12
      refine call_mono (tenonref08_guid_ok (o := 24) h12 (Gives.right (Gives.right gx)) (by decide) hb hr) ?_
      rintro _ w13 ⟨g, rfl, lg, rg, eg, h13⟩
      refine asA_ok <| stIp h13 rfl lg fun w14 h14 => ?_
      have h14 : Sat w₀ (blk k (pkF (X (numV bs 16) g 0 0 0 []) (.slice none 0 0)) T_api_Packet * (blk k1 (pkF pk0 (.slice none 0 0)) T_api_Packet * F)) w14 := h14
      obtain ⟨md, E40, m0, m1⟩ := byt 40 (by omega)
      refine ⟨⟨by omega, by omega⟩, ldI_ok (cel 40 (up h14) E40) <| arith_i64 (by omega) (by omega) <| st_ok (i := 21) h14 (pk_ltT (i := 21) (by exact lg) (by decide)) fun w15 h15 => ?_⟩
      rw [show 21 = 21 + 0 from rfl, pk_setT (by exact lg)] at h15
      have h15 : Sat w₀ (blk k (pkF (X (numV bs 16) g md 0 0 []) (.slice none 0 0)) T_api_Packet * (blk k1 (pkF pk0 (.slice none 0 0)) T_api_Packet * F)) w15 := h15
      refine num 48 (up h15) (by decide) (by decide) <| asI_ok <| arith_raw <| st_ok (i := 22) h15 (pk_ltT (i := 22) (by exact lg) (by decide)) fun w17 h17 => ?_
      rw [show 22 = 21 + 1 from rfl, pk_setT (by exact lg)] at h17
      have h17 : Sat w₀ (blk k (pkF (X (numV bs 16) g md (IntKind.wrap .i64 (numV bs 48)) 0 []) (.slice none 0 0)) T_api_Packet * (blk k1 (pkF pk0 (.slice none 0 0)) T_api_Packet * F)) w17 := h17
      have hp : ∀ rs, PIn (X (numV bs 16) g md (IntKind.wrap .i64 (numV bs 48)) 0 rs) := fun rs => pinX (nV 16) lg rg ⟨by omega, by omega⟩ (wrap_i64 _) i0
      have hu : ∀ y rs, Form bs y → y.rs = rs → y = X (numV bs 16) g md (IntKind.wrap .i64 (numV bs 48)) 0 rs := by
        intro y rs hy hrs
        have i1 := I1 y hy
        have ky := i1.1.trans kk
        obtain ⟨a2, L2, b3, b4, L3, a6, L4, a7, L6, L7⟩ := at1 hy.pin hy.right ky
        have c1 := Pre.num (a2 ▸ hy.p2) (l1 hy.pin hy.right) rfl hy.pin.cl.1 hy.pin.cl.2
        have un_ := un_range y.n
        have c2 := Pre.num (a6 ▸ hy.p6) L4 rfl un_.1 un_.2
        have c3 : g = y.ip := by
          rw [eg (by omega)]
          obtain ⟨t, e⟩ := hy.p3
          rw [e, b3, List.append_assoc, List.drop_left' L2, List.take_left' hy.pin.ip]
        have c4 : md = y.md := by
          obtain ⟨t, e⟩ := hy.p4
          rw [e, b4, List.append_assoc, List.getElem?_append_right (by omega), L3] at E40
          simpa using E40.symm
        have c5 : y.cd = 0 := r_cd hy.right (by rw [ky]; decide)
        rw [pk_iff]
        refine ⟨i1.1, i1.2.1, i1.2.2.1, i1.2.2.2, c1.symm, c3.symm, c4.symm, ?_, c5, hrs⟩
        show y.n = IntKind.wrap .i64 (numV bs 48)
        have c2' : numV bs 48 = un y.n := c2
        rw [c2', i64_un hy.pin.n]
      have hcount : ∀ y, Form bs y → numV bs 56 = y.rs.length := by
        intro y hy
        have ky := (I1 y hy).1.trans kk
        obtain ⟨a2, L2, b3, b4, L3, a6, L4, a7, L6, L7⟩ := at1 hy.pin hy.right ky
        have := (rs_one hy.pin hy.right).1
        exact Pre.num (a7 ▸ hy.p7) L6 rfl (by omega) (by omega)
      refine num 56 (up h17) (by decide) (by decide) <| asI_ok <| br_split (fun hone => ?_) (fun hone => stt h17 (hp []) fun y hy => hu y [] hy ?_)
      · have hone : numV bs 56 = 1 := by simpa using hone
        refine slc_ok (by omega) (by omega) (by omega) ?_
        have gs := Gives.sub8 gx (lo := 64) (hi := bs.length) (by omega) (Nat.le_refl _) hc
        have etk : (bs.drop 64).take (bs.length - 64) = bs.drop 64 := List.take_of_length_le (by rw [List.length_drop]; omega)
        rw [etk] at gs
        have hrd : ∀ b ∈ bs.drop 64, 0 ≤ b ∧ b ≤ 255 := fun b hb => hr b (List.mem_of_mem_drop hb)
        refine call_mono (ref_Decode_ok (h17 : Sat w₀ _ w17) (Gives.right (Gives.right gs)) (by show bs.length - 64 ≤ c - 64; omega) (by omega) hrd) ?_
        rintro _ w19 ⟨rfl, h19⟩
        have hin := decR_in hrd
        refine ⟨_, _, rfl, new_ok h19 fun k40 w20 h20 => stA_ok h20 rfl (orF_size hin) orF_one fun w21 h21 => ldO h21 hin ⟨orF_size hin, new_ok h21 fun k42 w22 h22 => ?_⟩⟩
        have h23 := h22.perm (B := blk k (pkF (X (numV bs 16) g md (IntKind.wrap .i64 (numV bs 48)) 0 []) (.slice none 0 0)) T_api_Packet * (blk k42 (orF (decR (bs.drop 64)).1) 55 * (blk k1 (pkF pk0 (.slice none 0 0)) T_api_Packet * F * blk k40 (orF (decR (bs.drop 64)).1) 55))) (by ac_rfl)
        refine st_ok (i := 24) h23 (pk_ltT (i := 24) (by exact lg) (by decide)) fun w23 h24 => ?_
        rw [show 24 = 21 + 3 from rfl, pk_setT (by exact lg)] at h24
        refine ⟨X (numV bs 16) g md (IntKind.wrap .i64 (numV bs 48)) 0 [⟨(decR (bs.drop 64)).1, hin⟩], some ⟨k42, 0, none⟩, 1, 1, blk k42 (orF (decR (bs.drop 64)).1) 55, (h24.perm (B := blk k40 (orF (decR (bs.drop 64)).1) 55 * (blk k (pkF (X (numV bs 16) g md (IntKind.wrap .i64 (numV bs 48)) 0 [⟨(decR (bs.drop 64)).1, hin⟩]) (.slice (some ⟨k42, 0, none⟩) 1 1)) T_api_Packet * (blk k42 (orF (decR (bs.drop 64)).1) 55 * (blk k1 (pkF pk0 (.slice none 0 0)) T_api_Packet * F)))) ?_).right, ?_, Nat.le_refl _, hp _, fun y hy => hu y _ hy ?_⟩
        · show blk k (pkF (X (numV bs 16) g md (IntKind.wrap .i64 (numV bs 48)) 0 [⟨(decR (bs.drop 64)).1, hin⟩]) (.slice (some ⟨k42, 0, none⟩) 1 1)) T_api_Packet * _ = _
          ac_rfl
        · have e : ([⟨(decR (bs.drop 64)).1, hin⟩] : List OR).flatMap orC = (orF (decR (bs.drop 64)).1).toList := by
            show orC ⟨(decR (bs.drop 64)).1, hin⟩ ++ [] = _
            rw [List.append_nil]
            rfl
          show Gives _ 36 _ 1 (([⟨(decR (bs.drop 64)).1, hin⟩] : List OR).flatMap orC)
          rw [e]
          exact Gives.ob (by rw [orF_size hin])
        · have h1 := hcount y hy
          obtain ⟨r, hrs⟩ := List.length_eq_one_iff.1 (show y.rs.length = 1 by omega)
          have hrr := (rs_one hy.pin hy.right).2.2 r (by rw [hrs]; simp)
          obtain ⟨a2, L2, b3, b4, L3, a6, L4, a7, L6, L7⟩ := at1 hy.pin hy.right ((I1 y hy).1.trans kk)
          have e : bs.drop 64 = encL r.1 := by
            rw [← hy.enc, encP, List.drop_left' L7, hrs]
            show encL r.1 ++ [] = _
            rw [List.append_nil]
          rw [hrs]
          congr 1
          apply Subtype.ext
          show r.1 = (decR (bs.drop 64)).1
          rw [e, decR_encL r.2 hrr]
      · have h1 := hcount y hy
        have hone : ¬ numV bs 56 = 1 := by simpa using hone
        have h2 := (rs_one hy.pin hy.right).1
        exact List.eq_nil_of_length_eq_zero (by omega)
    have kk1 : n1 ≠ 1 := by simpa using kk
    have noRs : ∀ y, Form bs y → y.rs = [] ∧ y.md = 0 := fun y hy => by
      have ky : y.kd ≠ 1 := by rw [(I1 y hy).1]; exact kk1
      exact ⟨(rs_one hy.pin hy.right).2.1 ky, r_md hy.right (by simpa using ky)⟩
    refine br_split (fun kk => ?_) (fun kk => ?_)
    · have kk : n1 = 2 := by simpa using kk
      refine br_dec (fun hlt => none_ h9 fun y hy => ?_) (fun h40 => ?_)
      · have a := at2 hy.pin hy.right ((I1 y hy).1.trans kk)
        have := hy.p6.len
        omega
      refine num 16 (up h9) (by decide) (by decide) <| asI_ok <| st_ok (i := 4) h9 (pk_lt (by decide)) fun w12 h12 => ?_
      rw [pk_set 4 (by omega)] at h12
      have h12 : Sat w₀ (blk k (pkF (X (numV bs 16) z16 0 0 0 []) (.slice none 0 0)) T_api_Packet * (blk k1 (pkF pk0 (.slice none 0 0)) T_api_Packet * F)) w12 := h12
      obtain ⟨cd, E24, m0, m1⟩ := byt 24 (by omega)
      refine ⟨⟨by omega, by omega⟩, ldI_ok (cel 24 (up h12) E24) <| arith_i64 (by omega) (by omega) <| st_ok (i := 23) h12 (pk_ltT (i := 23) rfl (by decide)) fun w15 h15 => ?_⟩
      rw [show 23 = 21 + 2 from rfl, pk_setT (by rfl)] at h15
      have h15 : Sat w₀ (blk k (pkF (X (numV bs 16) z16 0 0 cd []) (.slice none 0 0)) T_api_Packet * (blk k1 (pkF pk0 (.slice none 0 0)) T_api_Packet * F)) w15 := h15
      refine num 32 (up h15) (by decide) (by decide) <| asI_ok <| arith_raw <| st_ok (i := 22) h15 (pk_ltT (i := 22) rfl (by decide)) fun w17 h17 => ?_
      rw [show 22 = 21 + 1 from rfl, pk_setT (by rfl)] at h17
      refine stt (cl := numV bs 16) (ip := z16) (md := 0) (n := IntKind.wrap .i64 (numV bs 32)) (cd := cd) h17 (pinX (nV 16) rfl rz i0 (wrap_i64 _) ⟨by omega, by omega⟩) fun y hy => ?_
      have i1 := I1 y hy
      have ky := i1.1.trans kk
      obtain ⟨a2, L2, b5, a6, L5, L6⟩ := at2 hy.pin hy.right ky
      have c1 := Pre.num (a2 ▸ hy.p2) (l1 hy.pin hy.right) rfl hy.pin.cl.1 hy.pin.cl.2
      have un_ := un_range y.n
      have c2 : numV bs 32 = un y.n := Pre.num (a6 ▸ hy.p6) L5 rfl un_.1 un_.2
      have c4 : cd = y.cd := by
        obtain ⟨t, e⟩ := hy.p5
        rw [e, b5, List.append_assoc, List.getElem?_append_right (by omega), L2] at E24
        simpa using E24.symm
      rw [pk_iff]
      refine ⟨i1.1, i1.2.1, i1.2.2.1, i1.2.2.2, c1.symm, r_ip hy.right (by rw [ky]; decide), (noRs y hy).2, ?_, c4.symm, (noRs y hy).1⟩
      show y.n = IntKind.wrap .i64 (numV bs 32)
      rw [c2, i64_un hy.pin.n]
    have kk2 : n1 ≠ 2 := by simpa using kk
    have two : n1 = 3 ∨ n1 = 4 → call Try.prog fn_tenonref08_guid #[.slice (some a) bs.length c, .int .i64 16] w9 fun v52 w30 => asA v52 fun g53 => stA Try.prog ((⟨k, 0, none⟩ : Addr).add 5) 16 g53 w30 fun w31 => call Try.prog fn_tenonref08_num #[.slice (some a) bs.length c, .int .i64 32] w31 fun v54 w32 => asI .u64 v54 fun n55 => arith .i64 n55 fun n56 => st ((⟨k, 0, none⟩ : Addr).add 22) (.int .i64 n56) w32 fun w33 =>
        ∃ (x : PK) (q : Option Addr) (m d : Nat) (G : HP), Sat w₀ (blk k (pkF x (.slice q m d)) T_api_Packet * (G * (blk k1 (pkF pk0 (.slice none 0 0)) T_api_Packet * F))) w33 ∧ Gives G 36 q m (x.rs.flatMap orC) ∧ m ≤ 1 ∧ PIn x ∧ ∀ y, Form bs y → y = x := by
      intro k34
      refine call_mono (tenonref08_guid_ok (o := 16) h9 (Gives.right (Gives.right gx)) (by decide) hb hr) ?_
      rintro _ w13 ⟨g, rfl, lg, rg, eg, h13⟩
      refine asA_ok <| stIp h13 rfl lg fun w14 h14 => ?_
      have h14 : Sat w₀ (blk k (pkF (X 0 g 0 0 0 []) (.slice none 0 0)) T_api_Packet * (blk k1 (pkF pk0 (.slice none 0 0)) T_api_Packet * F)) w14 := h14
      refine num 32 (up h14) (by decide) (by decide) <| asI_ok <| arith_raw ?_
      rw [add_mk, Nat.zero_add]
      refine st_ok (i := 22) h14 (pk_ltT (i := 22) (by exact lg) (by decide)) fun w17 h17 => ?_
      rw [show 22 = 21 + 1 from rfl, pk_setT (by exact lg)] at h17
      refine stt (cl := 0) (ip := g) (md := 0) (n := IntKind.wrap .i64 (numV bs 32)) (cd := 0) h17 (pinX u0 lg rg i0 (wrap_i64 _) i0) fun y hy => ?_
      have i1 := I1 y hy
      have ky : y.kd = 3 ∨ y.kd = 4 := by rw [i1.1]; exact k34
      obtain ⟨b5, a6, L5⟩ := at34 hy.pin hy.right ky
      have un_ := un_range y.n
      have c2 : numV bs 32 = un y.n := Pre.num (a6 ▸ hy.p6) L5 rfl un_.1 un_.2
      have c3 : g = y.ip := by
        have := hy.p5.len
        rw [eg (by omega)]
        obtain ⟨t, e⟩ := hy.p5
        rw [e, b5, List.append_assoc, List.drop_left' (l1 hy.pin hy.right), List.take_left' hy.pin.ip]
      rw [pk_iff]
      refine ⟨i1.1, i1.2.1, i1.2.2.1, i1.2.2.2, r_cl hy.right (by rcases ky with h | h <;> rw [h] <;> decide), c3.symm, (noRs y hy).2, ?_, r_cd hy.right (by rcases ky with h | h <;> rw [h] <;> decide), (noRs y hy).1⟩
      show y.n = IntKind.wrap .i64 (numV bs 32)
      rw [c2, i64_un hy.pin.n]
    refine br_split (fun kk => br_true kk (two (.inl (by simpa using kk)))) (fun kk => br_split (fun kk4 => two (.inr (by simpa using kk4))) (fun kk4 => ?_))
    have kk3 : n1 ≠ 3 := by simpa using kk
    have kk4 : n1 ≠ 4 := by simpa using kk4
    refine stt h9 (pinX u0 rfl rz i0 i0 i0) fun y hy => ?_
    have i1 := I1 y hy
    rw [pk_iff]
    exact ⟨i1.1, i1.2.1, i1.2.2.1, i1.2.2.2, r_cl hy.right (by rw [i1.1]; simp [callB, kk1, kk2]), r_ip hy.right (by rw [i1.1]; simp [ipidB, kk1, kk3, kk4]), (noRs y hy).2, r_n hy.right (by rw [i1.1]; simp [nB, kk1, kk2, kk3, kk4]), r_cd hy.right (by rw [i1.1]; simpa using kk2), (noRs y hy).1⟩
  rintro u w38 ⟨x, q, m, d, G, h38, gG, hm, hX, hdone⟩
  have gx38 : ∀ A, Gives (A * (G * (blk k1 (pkF pk0 (.slice none 0 0)) T_api_Packet * F))) 36 q m (x.rs.flatMap orC) := fun A => Gives.right (Gives.left gG)
  refine ldPk h38 hX.ip <| call_mono (ref_Right_ok h38 hX (gx38 _)) ?_
  rintro _ w39 ⟨rfl, h39⟩
  refine asB_ok <| br_split (fun hno => ?_) (fun hyes => ?_)
  · have hno : ¬ RightP x := by simpa using hno
    exact none_ (A := blk k _ _ * G) (h39.perm (by ac_rfl)) fun y' hy' => hno (by rw [← hdone y' hy']; exact hy'.right)
  · have hright : RightP x := by simpa using hyes
    refine ldPk h39 hX.ip <| call_mono (refP_Encode_ok h39 hX hright (gx38 _)) ?_
    rintro _ w41 ⟨qe, de, rfl, h41⟩
    have hFb := gx _ _ h41.right.right.right.right
    have hlen := encP_len hX hright
    refine asS_ok <| call_reads (tenonref01_SameBytes_ok h41.left.rd hFb (by omega)) fun w42 hw => asB_ok <| br_split (fun hne => ?_) (fun heq => ?_)
    · have hne : encP x ≠ bs := by simpa using hne
      exact none_ (A := own T_uint8 1 qe _ de _ * (blk k _ _ * G)) ((h41.same hw).perm (by ac_rfl)) fun y' hy' => hne (by rw [← hdone y' hy']; exact hy'.enc)
    · have heq : encP x = bs := by simpa using heq
      have h42 := h41.same hw
      refine ldPk h42.right hX.ip <| stA_ok (h42.perm (B := blk k1 (pkF pk0 (.slice none 0 0)) T_api_Packet * (own T_uint8 1 qe (encP x).length de (by8 (encP x)) * (blk k (pkF x (.slice q m d)) T_api_Packet * (G * F)))) (by ac_rfl)) rfl (pk_size hX.ip) pk_one fun w43 h43 => ldPk h43 hX.ip ⟨_, q, m, d, true, G, rfl, hX, hm, gG, h43.right.right.right, .inl ⟨rfl, ⟨hX, hright, heq⟩, hdone⟩⟩
end
theorem PacketDecodes_walk {W : World} {p : Option Addr} {c : Nat} {bs : List Int} (hx : Rd W 1 p bs.length (by8 bs)) (hc : bs.length ≤ c) (hl : bs.length ≤ 140737488351232) (hr : ∀ b ∈ bs, 0 ≤ b ∧ b ≤ 255) :
    call Try.prog fn_tenonlaw08_PacketDecodes #[.slice p bs.length c] W fun v w' => v = .bool true ∧ Below W.heap.size W w' := by
  apply tenonlaw08_PacketDecodes_call
  unfold tenonlaw08_PacketDecodes
  refine call_mono (tenonref01_Lent_ok (Sat.start W) (Gives.old hx) hl) ?_
  rintro _ w1 ⟨q, d, rfl, hd, h1⟩
  refine asS_ok <| call_mono (packet_Decode_ok h1 (Gives.left (Lnt.gives rfl)) (by omega) (by omega) hr) ?_
  rintro _ w2 ⟨y, q2, m2, d2, e, G, rfl, hy, hm2, gG, h2, res⟩
  refine ⟨_, _, rfl, new_ok h2 fun k6 w3 h3 => stA_ok h3 rfl (pk_size hy.ip) pk_one fun w4 h4 => ?_⟩
  have gW : ∀ A B C, Gives (A * (B * (C * old W))) 1 p bs.length (by8 bs) := fun A B C => Gives.right (Gives.right (Gives.right (Gives.old hx)))
  refine call_mono (refP_Decode_ok h4 (gW _ _ _) hc (by omega) hr) ?_
  rintro _ w5 ⟨z, q5, m5, d5, b, G5, rfl, hz, hm5, gG5, h5, res5⟩
  refine ⟨_, _, rfl, new_ok h5 fun k10 w6 h6 => stA_ok h6 rfl (pk_size hz.ip) pk_one fun w7 h7 => ?_⟩
  have h7 : Sat W (blk k10 (pkF z (.slice q5 m5 d5)) T_api_Packet * (G5 * (blk k6 (pkF y (.slice q2 m2 d2)) T_api_Packet * (G * (Lnt q bs.length d bs * old W))))) w7 := h7
  refine ldPk h7.right.right hy.ip <| ldPk h7 hz.ip <| call_mono (ref_Same_ok h7 hy.ip hz.ip (Gives.right (Gives.right (Gives.right (Gives.left gG)))) (Gives.right (Gives.left gG5)) (by omega)) ?_
  rintro _ w8 ⟨rfl, h8⟩
  have h9 := h8.perm (B := Lnt q bs.length d bs * ((blk k10 (pkF z (.slice q5 m5 d5)) T_api_Packet * (G5 * (blk k6 (pkF y (.slice q2 m2 d2)) T_api_Packet * G))) * old W)) (by ac_rfl)
  have kept : call Try.prog fn_tenonref01_Kept #[.slice q bs.length d, .slice p bs.length c] w8 fun v15 w9 => asB v15 fun b16 => br b16 (call Try.prog fn_tenonlaw08_awake #[] w9 fun v17 w10 => asB v17 fun b18 => (Value.bool b18) = .bool true ∧ Below W.heap.size W w10) ((Value.bool false) = .bool true ∧ Below W.heap.size W w9) := by
    refine call_mono (tenonref01_Kept_ok h9 rfl hd (Gives.right (Gives.old hx)) hl) ?_
    rintro _ w9 ⟨rfl, h10⟩
    exact asB_ok <| br_true rfl (awake_done h10.right)
  have hyz : y = z ∧ ((e = 0 ∧ b = true) ∨ (e = 5 ∧ b = false)) := by
    rcases res with ⟨he, hF, hu⟩ | ⟨he, h0, hno⟩
    · rcases res5 with ⟨hb, hF5, hu5⟩ | ⟨hb, _, hno⟩
      · exact ⟨hu5 y hF, .inl ⟨he, hb⟩⟩
      · exact (hno _ hF).elim
    · rcases res5 with ⟨hb, hF5, hu5⟩ | ⟨hb, h05, _⟩
      · exact (hno _ hF5).elim
      · exact ⟨h0.trans h05.symm, .inr ⟨he, hb⟩⟩
  obtain ⟨rfl, hcase⟩ := hyz
  refine asB_ok <| br_true (by simp) ?_
  rcases hcase with ⟨rfl, rfl⟩ | ⟨rfl, rfl⟩
  · exact br_true rfl <| br_true rfl kept
  · exact br_true rfl <| br_false rfl <| br_true rfl kept
theorem PacketDecodes_row {W : World} {v : Value} (h : ∃ p c bs, v = .slice p (List.length bs) c ∧ bs.length ≤ c ∧ bs.length ≤ 9223372036854775807 ∧ Rd W 1 p bs.length (by8 bs) ∧ ∀ b ∈ bs, 0 ≤ b ∧ b ≤ 255)
    (hz : ∀ p l c, v = .slice p l c → l * Try.prog.bytesOf T_uint8 ≤ reachBytes) :
    call Try.prog fn_tenonlaw08_PacketDecodes #[v] W fun v w' => v = .bool true ∧ Below W.heap.size W w' := by
  obtain ⟨p, c, bs, rfl, hc, _, hx, hr⟩ := h
  have hlen := hz _ _ _ rfl
  have hb1 : Try.prog.bytesOf T_uint8 = 1 := by kernel_rfl
  rw [hb1, Nat.mul_one] at hlen
  exact PacketDecodes_walk hx hc (by simp only [reachBytes] at hlen; omega) hr
end Go.Proofs.Ytkkfhceejhabeaa
