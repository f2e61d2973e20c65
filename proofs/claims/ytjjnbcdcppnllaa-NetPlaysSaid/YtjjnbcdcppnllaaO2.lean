
/- Contracts of layer 7 (objref): reading a form. No conditions. -/
import Derived.Test.YtjjnbcdcppnllaaO1
import Derived.Test.YtjjnbcdcppnllaaSpA
set_option linter.unusedVariables false
set_option linter.unusedSimpArgs false
set_option maxRecDepth 100000
namespace Go.Proofs.Ytjjnbcdcppnllaa
open Go.Sp Go.RowKit

/-- The number of some bytes at a place. -/
def at_ (bs : List Int) (o n : Nat) : Int := le ((bs.drop o).take n)
theorem at_range {bs : List Int} {o n : Nat} (hr : ∀ b ∈ bs, 0 ≤ b ∧ b ≤ 255) : 0 ≤ at_ bs o n ∧ at_ bs o n < 256 ^ n := by
  have h := le_range ((bs.drop o).take n) fun b hb => hr b (List.mem_of_mem_drop (List.mem_of_mem_take hb))
  have hl : ((bs.drop o).take n).length ≤ n := by rw [List.length_take]; omega
  have := pow256_le hl
  exact ⟨h.1, by unfold at_; omega⟩
theorem readR_al {bs : List Int} {o : Nat} {s : Int} (hf : fitsB s = true) (hm : (o : Int) % s = 0) (hl : o + s.toNat ≤ bs.length) : readR bs o s = (at_ bs o s.toNat, o + s.toNat, 0) := by
  have : gapI o s = 0 := by rw [gapI, hm]; simp
  unfold readR
  rw [hf, this]
  simp
  rw [if_neg (by omega)]
  rfl
def decX (bs : List Int) : ORef := ⟨at_ bs 4 4, at_ bs 8 4, at_ bs 16 8, at_ bs 24 8, (bs.drop 32).take 32⟩
def noX : ORef := ⟨0, 0, 0, 0, List.replicate 32 0⟩
theorem decX_in {bs : List Int} (hl : 64 ≤ bs.length) (hr : ∀ b ∈ bs, 0 ≤ b ∧ b ≤ 255) : OIn (decX bs) := by
  have h1 := at_range (o := 4) (n := 4) hr
  have h2 := at_range (o := 8) (n := 4) hr
  have h3 := at_range (o := 16) (n := 8) hr
  have h4 := at_range (o := 24) (n := 8) hr
  refine ⟨⟨h1.1, ?_⟩, ⟨h2.1, ?_⟩, ⟨h3.1, ?_⟩, ⟨h4.1, ?_⟩, ?_, fun b hb => hr b (List.mem_of_mem_drop (List.mem_of_mem_take hb))⟩
  · show at_ bs 4 4 ≤ _; omega
  · show at_ bs 8 4 ≤ _; omega
  · show at_ bs 16 8 ≤ _; omega
  · show at_ bs 24 8 ≤ _; omega
  · show ((bs.drop 32).take 32).length = 32
    simp; omega
def okD (bs : List Int) : Bool := at_ bs 0 4 == 1464812877 && at_ bs 12 4 == 0 && decide (bs.length = 64) && rightB (decX bs)
def decR (bs : List Int) : ORef × Int := if bs.length < 64 then (noX, 6) else if okD bs = true then (decX bs, 0) else (noX, 5)
theorem orF_noX : orF noX = #[.int .u32 0, .int .u32 0, .int .u64 0, .int .u64 0, .int .u8 0, .int .u8 0, .int .u8 0, .int .u8 0, .int .u8 0, .int .u8 0, .int .u8 0, .int .u8 0, .int .u8 0, .int .u8 0, .int .u8 0, .int .u8 0, .int .u8 0, .int .u8 0, .int .u8 0, .int .u8 0, .int .u8 0, .int .u8 0, .int .u8 0, .int .u8 0, .int .u8 0, .int .u8 0, .int .u8 0, .int .u8 0, .int .u8 0, .int .u8 0, .int .u8 0, .int .u8 0, .int .u8 0, .int .u8 0, .int .u8 0, .int .u8 0] := rfl
theorem noX_in : OIn noX := ⟨by decide, by decide, by decide, by decide, rfl, by decide⟩
theorem orF_one {x : ORef} : ∀ u ∈ (orF x).toList, u.oneCell' = true := by
  intro u hu
  simp only [orF] at hu
  rcases List.mem_append.1 hu with hu | hu
  · simp [orL] at hu
    rcases hu with rfl | rfl | rfl | rfl <;> rfl
  · exact by8_one _ u hu

theorem objref_name_ok {w₀ w : World} {F : HP} {g o : Nat} {bs : List Int} (h : Sat w₀ (Rdr g bs o * F) w) (hl : o + 16 ≤ bs.length) (hb : bs.length ≤ 140737488355328) (hr : ∀ b ∈ bs, 0 ≤ b ∧ b ≤ 255) :
    call Try.prog fn_objref_name #[.pointer (some ⟨g, 0, none⟩)] w fun v w' => v = .agg (by8 ((bs.drop o).take 16)).toArray ∧ Sat w₀ (Rdr g bs (o + 16) * F) w' := by
  apply objref_name_call
  unfold objref_name
  refine new_ok h fun k1 w1 h1 => new_ok h1 fun k2 w2 h2 => ?_
  have h2 := h2.p2
  refine ⟨fun i w m => ∃ j : Nat, i = j ∧ j ≤ 16 ∧ m = 16 - j ∧ Sat w₀ (Rdr g bs (o + j) * (blk k2 (by8 ((bs.drop o).take j ++ List.replicate (16 - j) 0)).toArray T_api_Guid * (blk k1 #[.int .u8 0, .int .u8 0, .int .u8 0, .int .u8 0, .int .u8 0, .int .u8 0, .int .u8 0, .int .u8 0, .int .u8 0, .int .u8 0, .int .u8 0, .int .u8 0, .int .u8 0, .int .u8 0, .int .u8 0, .int .u8 0] T_api_Guid * F))) w, ⟨_, 0, rfl, by omega, rfl, by rw [List.take_zero]; exact h2⟩, ?_⟩
  rintro u _ w3 m ⟨j, rfl, hj, rfl, h3⟩
  have htk : ((bs.drop o).take j).length = j := by simp; omega
  refine br_dec (fun hlt => ?_) (fun hge => ?_)
  · refine call_mono (wire_Reader_Num_ok h3 (by omega) hb hr) ?_
    rw [readR_al rfl (by simp) (by show o + j + 1 ≤ _; omega)]
    rintro _ w4 ⟨rfl, _, h4⟩
    have hbj : bs[o + j]? = some (bs[o + j]'(by omega)) := by simp [show o + j < bs.length by omega]
    generalize bs[o + j]'(by omega) = b at hbj
    have hbr := hr b (List.mem_of_getElem? hbj)
    have hat : at_ bs (o + j) (1 : Int).toNat = b := by
      have e : (bs.drop (o + j)).take 1 = [b] := by
        obtain ⟨hlt, he⟩ := List.getElem?_eq_some_iff.1 hbj
        rw [List.drop_eq_getElem_cons hlt, he]
        rfl
      show le ((bs.drop (o + j)).take 1) = b
      rw [e]
      simp [le]
    dsimp only at h4 ⊢
    rw [hat]
    refine ⟨_, _, rfl, arith_u8 <| idxA_ok (by omega) (by omega) ?_⟩
    rw [add_mk, Nat.zero_add, Int.toNat_natCast, Nat.mul_one]
    have hm : b % 256 = b := by omega
    rw [hm]
    refine st_ok (i := j) h4.p1 (by simp [by8_length]; omega) fun w5 h5 => arith_i64 (by omega) (by omega) ⟨_, by omega, j + 1, by omega, by omega, rfl, ?_⟩
    have e : (by8 ((bs.drop o).take j ++ List.replicate (16 - j) 0)).toArray.setIfInBounds j (.int .u8 b) = (by8 ((bs.drop o).take (j + 1) ++ List.replicate (16 - (j + 1)) 0)).toArray := by
      apply Array.ext'
      rw [Array.toList_setIfInBounds]
      show (by8 ((bs.drop o).take j ++ List.replicate (16 - j) 0)).set j (.int .u8 b) = by8 ((bs.drop o).take (j + 1) ++ List.replicate (16 - (j + 1)) 0)
      rw [by8_append, by8_append, List.set_append_right _ _ (by simp [by8_length]; omega), by8_length, htk, Nat.sub_self, show 16 - j = 16 - (j + 1) + 1 by omega, List.replicate_succ, List.take_add_one, List.getElem?_drop, hbj, by8_append]
      simp [by8]
    rw [e] at h5
    exact h5.p1
  · have : j = 16 := by omega
    subst this
    simp only [Nat.sub_self, List.replicate_zero, List.append_nil] at h3
    have h4 := h3.p1
    have hsz : (by8 ((bs.drop o).take 16)).toArray.size = 16 := by simp [by8_length]; omega
    have ld : ∀ {w F k}, Sat w₀ (blk k (by8 ((bs.drop o).take 16)).toArray T_api_Guid * F) w → ∀ i, i < 16 → w.cell? ((⟨k, 0, none⟩ : Addr).add i) = ((by8 ((bs.drop o).take 16)).toArray)[i]? := by
      intro w F k h i hi
      have : i < (by8 ((bs.drop o).take 16)).toArray.size := by rw [hsz]; exact hi
      rw [add_mk, Nat.zero_add, h.left.cell (v := ((by8 ((bs.drop o).take 16)).toArray)[i]) (by simp only [Array.getElem?_eq_getElem this])]
      simp only [Array.getElem?_eq_getElem this]
    refine ldA_ok hsz (ld h4) <| stA_ok h4.p2 rfl hsz (by simpa using by8_one _) fun w5 h5 => ldA_ok hsz (ld h5) ⟨rfl, h5.right.right⟩

theorem glueO {a b c d : Value} {zs : List Value} (hz : zs.length = 32) {g1 g2 : List Value} (h1 : g1.length = 16) (h2 : g2.length = 16) :
    (((((a :: b :: c :: d :: zs).take 4 ++ g1 ++ (a :: b :: c :: d :: zs).drop (4 + 16)).toArray.toList.take 20) ++ g2 ++ (((a :: b :: c :: d :: zs).take 4 ++ g1 ++ (a :: b :: c :: d :: zs).drop (4 + 16)).toArray.toList.drop (20 + 16))).toArray) = ([a, b, c, d] ++ (g1 ++ g2)).toArray := by
  apply Array.ext'
  have e : (a :: b :: c :: d :: zs).take 4 ++ g1 ++ (a :: b :: c :: d :: zs).drop (4 + 16) = ([a, b, c, d] ++ g1) ++ zs.drop 16 := by simp
  have e1 : ([a, b, c, d] ++ g1).length = 20 := by simp [h1]
  have e2 : (([a, b, c, d] ++ g1) ++ zs.drop 16).length = 36 := by rw [List.length_append, e1]; simp [hz]
  show (((a :: b :: c :: d :: zs).take 4 ++ g1 ++ (a :: b :: c :: d :: zs).drop (4 + 16)).take 20) ++ g2 ++ (((a :: b :: c :: d :: zs).take 4 ++ g1 ++ (a :: b :: c :: d :: zs).drop (4 + 16)).drop (20 + 16)) = [a, b, c, d] ++ (g1 ++ g2)
  rw [e, List.take_left' e1, List.drop_of_length_le (by omega), List.append_nil, List.append_assoc]
theorem decX_glue {bs : List Int} : (([.int .u32 (at_ bs 4 4), .int .u32 (at_ bs 8 4), .int .u64 (at_ bs 16 8), .int .u64 (at_ bs 24 8)] : List Value) ++ (by8 ((bs.drop 32).take 16) ++ by8 ((bs.drop 48).take 16))).toArray = orF (decX bs) := by
  have e : (bs.drop 32).take 16 ++ (bs.drop 48).take 16 = (bs.drop 32).take 32 := by
    rw [show bs.drop 48 = (bs.drop 32).drop 16 by rw [List.drop_drop], ← List.take_add]
  rw [← by8_append, e]
  rfl
theorem objref_Decode_ok {w₀ w : World} {F : HP} {p : Option Addr} {l c : Nat} {bs : List Int} (h : Sat w₀ F w) (hx : Gives F 1 p l (by8 bs)) (hb : l ≤ 140737488355328) (hr : ∀ b ∈ bs, 0 ≤ b ∧ b ≤ 255) :
    call Try.prog fn_objref_Decode #[.slice p l c] w fun v w' => v = .tuple #[.agg (orF (decR bs).1), .int .i64 (decR bs).2] ∧ Sat w₀ F w' := by
  apply objref_Decode_call
  unfold objref_Decode
  have hl := (hx _ _ h).len8
  subst hl
  rw [← orF_noX]
  refine new_ok h fun k1 w1 h1 => br_dec (fun hlt => ?_) (fun hge => ?_)
  · refine stA_ok h1 (orF_size noX_in) (orF_size noX_in) orF_one fun w2 h2 => ldO h2 noX_in ⟨?_, h2.right⟩
    rw [decR, if_pos (by omega)]
  · have hn : ¬ bs.length < 64 := by omega
    have hdec : decR bs = if okD bs = true then (decX bs, 0) else (noX, 5) := by rw [decR, if_neg hn]
    refine call_mono (wire_NewReader_ok h1 (Gives.right hx) hb) ?_
    rintro _ w2 ⟨g, rfl, h2⟩
    refine asP_ok <| new_ok h2 fun k5 w3 h3 => ?_
    have h3 := h3.p1
    refine ⟨fun i w m => ∃ j : Nat, i = j ∧ j ≤ 4 ∧ m = 4 - j ∧ Sat w₀ (Rdr g bs (4 * j) * (blk k5 (((([at_ bs 0 4, at_ bs 4 4, at_ bs 8 4, at_ bs 12 4] : List Int).take j ++ List.replicate (4 - j) 0).map fun n => Value.int .u64 n).toArray) 113 * (blk k1 (orF noX) T_api_Objref * F))) w, ⟨_, 0, rfl, by omega, rfl, by rw [List.take_zero]; exact h3⟩, ?_⟩
    rintro u _ w4 m ⟨j, rfl, hj, rfl, h4⟩
    refine br_dec (fun hlt => ?_) (fun hge4 => ?_)
    · refine call_mono (wire_Reader_Num_ok h4 (by omega) hb hr) ?_
      rw [readR_al rfl (by omega) (by show 4 * j + 4 ≤ _; omega)]
      rintro _ w5 ⟨rfl, _, h5⟩
      dsimp only at h5 ⊢
      refine ⟨_, _, rfl, idxA_ok (by omega) (by omega) ?_⟩
      rw [add_mk, Nat.zero_add, Int.toNat_natCast, Nat.mul_one]
      have e4 : (4 : Int).toNat = 4 := rfl
      rw [e4] at h5 ⊢
      have : j = 0 ∨ j = 1 ∨ j = 2 ∨ j = 3 := by omega
      rcases this with rfl | rfl | rfl | rfl
      · exact st_ok (i := 0) h5.p1 (by simp) fun w6 h6 => arith_i64 (by omega) (by omega) ⟨_, by omega, 1, by omega, by omega, rfl, h6.p1⟩
      · exact st_ok (i := 1) h5.p1 (by simp) fun w6 h6 => arith_i64 (by omega) (by omega) ⟨_, by omega, 2, by omega, by omega, rfl, h6.p1⟩
      · exact st_ok (i := 2) h5.p1 (by simp) fun w6 h6 => arith_i64 (by omega) (by omega) ⟨_, by omega, 3, by omega, by omega, rfl, h6.p1⟩
      · exact st_ok (i := 3) h5.p1 (by simp) fun w6 h6 => arith_i64 (by omega) (by omega) ⟨_, by omega, 4, by omega, by omega, rfl, h6.p1⟩
    · have : j = 4 := by omega
      subst this
      have h4 : Sat w₀ (Rdr g bs 16 * (blk k5 #[.int .u64 (at_ bs 0 4), .int .u64 (at_ bs 4 4), .int .u64 (at_ bs 8 4), .int .u64 (at_ bs 12 4)] 113 * (blk k1 (orF noX) T_api_Objref * F))) w4 := h4
      have hX := decX_in (by omega) hr
      have r1 := at_range (o := 4) (n := 4) hr
      have r2 := at_range (o := 8) (n := 4) hr
      have hd : ∀ {w G} (j : Nat) {v : Value}, Sat w₀ (blk k5 #[.int .u64 (at_ bs 0 4), .int .u64 (at_ bs 4 4), .int .u64 (at_ bs 8 4), .int .u64 (at_ bs 12 4)] 113 * G) w → (#[.int .u64 (at_ bs 0 4), .int .u64 (at_ bs 4 4), .int .u64 (at_ bs 8 4), .int .u64 (at_ bs 12 4)] : Array Value)[j]? = some v → w.cell? ((⟨k5, 0, none⟩ : Addr).add j) = some v := by
        intro w G j v hw hv
        rw [add_mk, Nat.zero_add]
        exact hw.left.cell hv
      refine idxA_ok (by omega) (by omega) <| ldI_ok (hd 1 h4.right rfl) <| arith_u32 (by omega) (by omega) <| idxA_ok (by omega) (by omega) <| ldI_ok (hd 2 h4.right rfl) <| arith_u32 (by omega) (by omega) <| new_ok h4 fun k23 w5 h5 => stA_ok h5 (orF_size noX_in) rfl (by simp [Value.oneCell']) fun w6 h6 => ?_
      have h6 := h6.p1
      refine call_mono (wire_Reader_Num_ok h6 (by omega) hb hr) ?_
      rw [readR_al rfl (by decide) (by show 16 + 8 ≤ _; omega)]
      rintro _ w7 ⟨rfl, _, h7⟩
      have h7 : Sat w₀ (Rdr g bs 24 * _) w7 := h7
      refine ⟨_, _, rfl, st_ok (i := 2) h7.p1 (by simp) fun w8 h8 => call_mono (wire_Reader_Num_ok h8.p1 (by show 24 ≤ _; omega) hb hr) ?_⟩
      rw [readR_al (o := 24) rfl (by decide) (by show 24 + 8 ≤ _; omega)]
      rintro _ w9 ⟨rfl, _, h9⟩
      refine ⟨_, _, rfl, st_ok (i := 3) h9.p1 (by simp) fun w10 h10 => call_mono (objref_name_ok (o := 32) h10.p1 (by omega) hb hr) ?_⟩
      rintro _ w11 ⟨rfl, h11⟩
      have s1 : (by8 ((bs.drop 32).take 16)).toArray.size = 16 := by simp [by8_length]; omega
      have s2 : (by8 ((bs.drop 48).take 16)).toArray.size = 16 := by simp [by8_length]; omega
      refine asA_ok <| stA_at h11.p1 (by simp) s1 (by simpa using by8_one _) fun w12 h12 => call_mono (objref_name_ok (o := 48) h12.p1 (by omega) hb hr) ?_
      rintro _ w13 ⟨rfl, h13⟩
      refine asA_ok <| stA_at h13.p1 (by simp [by8_length]; omega) s2 (by simpa using by8_one _) fun w14 h14 => ?_
      have h14 : Sat w₀ (blk k23 (orF (decX bs)) T_api_Objref * (Rdr g bs 64 * (blk k5 #[.int .u64 (at_ bs 0 4), .int .u64 (at_ bs 4 4), .int .u64 (at_ bs 8 4), .int .u64 (at_ bs 12 4)] 113 * (blk k1 (orF noX) T_api_Objref * F)))) w14 := by
        have e := glueO (a := .int .u32 (at_ bs 4 4)) (b := .int .u32 (at_ bs 8 4)) (c := .int .u64 (at_ bs 16 8)) (d := .int .u64 (at_ bs 24 8)) (zs := List.replicate 32 (.int .u8 0)) (by simp) (g1 := by8 ((bs.drop 32).take 16)) (g2 := by8 ((bs.drop 48).take 16)) s1 s2
        rw [decX_glue] at e
        rw [← e]
        exact h14
      have out : ∀ {w}, Sat w₀ (blk k23 (orF (decX bs)) T_api_Objref * (Rdr g bs 64 * (blk k5 #[.int .u64 (at_ bs 0 4), .int .u64 (at_ bs 4 4), .int .u64 (at_ bs 8 4), .int .u64 (at_ bs 12 4)] 113 * (blk k1 (orF noX) T_api_Objref * F)))) w → okD bs = false →
          stA Try.prog (⟨k1, 0, none⟩ : Addr) 36 (orF noX) w fun w18 => ldA (⟨k1, 0, none⟩ : Addr) 36 w18 fun g36 => (Value.tuple #[.agg g36, .int .i64 5]) = .tuple #[.agg (orF (decR bs).1), .int .i64 (decR bs).2] ∧ Sat w₀ F w18 := by
        intro w hw ho
        refine stA_ok hw.p3 (orF_size noX_in) (orF_size noX_in) orF_one fun w' h' => ldO h' noX_in ⟨?_, h'.right.right.right.right⟩
        rw [hdec, ho]
        rfl
      refine idxA_ok (by omega) (by omega) <| ldI_ok (hd 0 h14.right.right rfl) <| br_split (fun hs => out h14 ?_) (fun hs => idxA_ok (by omega) (by omega) <| ldI_ok (hd 3 h14.right.right rfl) <| br_split (fun hz => out h14 ?_) (fun hz => call_mono (wire_End_ok h14.p1 (by omega) hb) ?_))
      · have hs : at_ bs 0 4 ≠ 1464812877 := by simpa using hs
        simp [okD, hs]
      · have hz : at_ bs 12 4 ≠ 0 := by simpa using hz
        simp [okD, hz]
      · have hs : at_ bs 0 4 = 1464812877 := by simpa using hs
        have hz : at_ bs 12 4 = 0 := by simpa using hz
        rintro _ w15 ⟨rfl, h15⟩
        refine asI_ok <| br_split (fun he => out h15.p1 ?_) (fun he => ?_)
        · have : bs.length ≠ 64 := by
            intro e
            rw [if_neg (by omega)] at he
            cases he
          simp [okD, this]
        · have hlen : bs.length = 64 := by
            by_cases hgt : 64 < bs.length
            · rw [if_pos hgt] at he
              cases he
            · omega
          refine ldO h15.p1 hX <| call_mono (objref_Check_ok h15.p1 hX) ?_
          rintro _ w16 ⟨rfl, h16⟩
          refine asI_ok <| br_split (fun hc => out h16 ?_) (fun hc => ?_)
          · have : rightB (decX bs) = false := by
              cases hr2 : rightB (decX bs) with
              | false => rfl
              | true => rw [hr2] at hc; simp at hc
            simp [okD, this]
          · have hR : rightB (decX bs) = true := by
              cases hr2 : rightB (decX bs) with
              | true => rfl
              | false => rw [hr2] at hc; simp at hc
            have hok : okD bs = true := by simp [okD, hs, hz, hlen, hR]
            refine ldO h16 hX <| stA_ok h16.p3 (orF_size noX_in) (orF_size hX) orF_one fun w17 h17 => ldO h17 hX ⟨?_, h17.right.right.right.right⟩
            rw [hdec, hok]
            rfl
end Go.Proofs.Ytjjnbcdcppnllaa
