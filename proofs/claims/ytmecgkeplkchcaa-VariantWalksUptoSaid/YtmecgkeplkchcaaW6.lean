
/- Contracts of layer 5 (wire): the reader's texts, and the document's reading. No conditions. -/
import Derived.Test.YtmecgkeplkchcaaW5
set_option linter.unusedVariables false
set_option linter.unusedSimpArgs false
namespace Go.Proofs.Ytmecgkeplkchcaa
open Go.Sp Go.RowKit

theorem pow256_le {a b : Nat} (h : a ≤ b) : (256 : Int) ^ a ≤ 256 ^ b := by
  have h1 := Nat.pow_le_pow_right (n := 256) (by omega) h
  have e : ∀ k : Nat, (256 : Int) ^ k = ((256 ^ k : Nat) : Int) := fun k => by rw [Int.natCast_pow]; rfl
  rw [e, e]
  exact Int.ofNat_le.2 h1
theorem wire_Left_ok {w₀ w : World} {F : HP} {g at_ : Nat} {bs : List Int} (h : Sat w₀ (Rdr g bs at_ * F) w) (hat : at_ ≤ bs.length) (hb : bs.length ≤ 140737488355328) :
    call Try.prog fn_wire_Reader_Left #[.pointer (some ⟨g, 0, none⟩)] w fun v w' => v = .int .i64 ((bs.length - at_ : Nat) : Int) ∧ Sat w₀ (Rdr g bs at_ * F) w' := by
  apply wire_Reader_Left_call
  unfold wire_Reader_Left
  obtain ⟨p, c, h⟩ := Rdr.open_ h
  have h := h.drew
  refine br_false rfl <| nn_ok <| ldS_ok (h.left.cell (i := 0) rfl) <| nn_ok <| ldI_ok (h.left.cell (i := 1) rfl) <| arith_i64 (by omega) (by omega) ⟨?_, Rdr.shut h⟩
  congr 1
  omega
theorem wire_End_ok {w₀ w : World} {F : HP} {g at_ : Nat} {bs : List Int} (h : Sat w₀ (Rdr g bs at_ * F) w) (hat : at_ ≤ bs.length) (hb : bs.length ≤ 140737488355328) :
    call Try.prog fn_wire_Reader_End #[.pointer (some ⟨g, 0, none⟩)] w fun v w' => v = .int .i64 (if at_ < bs.length then 5 else 0) ∧ Sat w₀ (Rdr g bs at_ * F) w' := by
  apply wire_Reader_End_call
  unfold wire_Reader_End
  refine call_mono (wire_Left_ok h hat hb) ?_
  rintro _ w1 ⟨rfl, h1⟩
  refine asI_ok <| br_dec (fun hlt => ⟨?_, h1⟩) (fun hge => ⟨?_, h1⟩)
  · rw [if_pos (by omega)]
  · rw [if_neg (by omega)]

theorem readR_at {bs : List Int} {at_ : Nat} {size : Int} (h : at_ ≤ bs.length) : (readR bs at_ size).2.1 ≤ bs.length ∧ at_ ≤ (readR bs at_ size).2.1 ∧ ((readR bs at_ size).2.2 ≠ 0 → (readR bs at_ size).2.1 = at_ ∧ (readR bs at_ size).1 = 0) := by
  unfold readR
  split
  · exact ⟨h, Nat.le_refl _, fun _ => ⟨rfl, rfl⟩⟩
  · dsimp only
    split
    · exact ⟨h, Nat.le_refl _, fun _ => ⟨rfl, rfl⟩⟩
    · split
      · exact ⟨h, Nat.le_refl _, fun _ => ⟨rfl, rfl⟩⟩
      · exact ⟨by dsimp only; omega, by dsimp only; omega, fun h => absurd rfl h⟩
theorem readR_num {bs : List Int} {at_ : Nat} {size : Int} (hr : ∀ b ∈ bs, 0 ≤ b ∧ b ≤ 255) : 0 ≤ (readR bs at_ size).1 ∧ (readR bs at_ size).1 ≤ 18446744073709551615 := by
  unfold readR
  split
  · simp
  · rename_i hf
    dsimp only
    split
    · simp
    · split
      · simp
      · have h1 := le_range ((bs.drop (at_ + (gapI at_ size).toNat)).take size.toNat) fun b hb => hr b (List.mem_of_mem_drop (List.mem_of_mem_take hb))
        have hs := fitsB_pos (by simpa using hf)
        have h2 : ((bs.drop (at_ + (gapI at_ size).toNat)).take size.toNat).length ≤ 8 := by rw [List.length_take]; omega
        have h3 : (256 : Int) ^ ((bs.drop (at_ + (gapI at_ size).toNat)).take size.toNat).length ≤ 256 ^ 8 := pow256_le h2
        exact ⟨h1.1, by dsimp only; omega⟩

/-- A text at a place, the place behind it, the error. -/
def textR (bs : List Int) (at_ : Nat) (most : Int) : List Int × Nat × Int :=
  let r := readR bs at_ 4
  if r.2.2 ≠ 0 then ([], at_, r.2.2) else
  if most < 0 ∨ r.1 > most then ([], at_, 20) else
  if r.1 > ((bs.length - r.2.1 : Nat) : Int) then ([], at_, 6) else
  ((bs.drop r.2.1).take r.1.toNat, r.2.1 + r.1.toNat, 0)
theorem textR_at {bs : List Int} {at_ : Nat} {most : Int} (h : at_ ≤ bs.length) : (textR bs at_ most).2.1 ≤ bs.length := by
  have h1 := readR_at (size := 4) h
  unfold textR
  dsimp only
  split
  · exact h
  · split
    · exact h
    · split
      · exact h
      · dsimp only; omega

theorem wire_Reader_Text_ok {w₀ w : World} {F : HP} {g at_ : Nat} {bs : List Int} {most : Int} (h : Sat w₀ (Rdr g bs at_ * F) w) (hat : at_ ≤ bs.length) (hb : bs.length ≤ 140737488355328) (hr : ∀ b ∈ bs, 0 ≤ b ∧ b ≤ 255)
    (hm : most ≤ 9223372036854775807) :
    call Try.prog fn_wire_Reader_Text #[.pointer (some ⟨g, 0, none⟩), .int .i64 most] w fun v w' => ∃ q d,
      v = .tuple #[.slice q (textR bs at_ most).1.length d, .int .i64 (textR bs at_ most).2.2] ∧ Sat w₀ (own T_uint8 1 q (textR bs at_ most).1.length d (by8 (textR bs at_ most).1) * (Rdr g bs (textR bs at_ most).2.1 * F)) w' := by
  apply wire_Reader_Text_call
  unfold wire_Reader_Text
  have hR := readR_at (size := 4) hat
  have hN := readR_num (at_ := at_) (size := 4) hr
  obtain ⟨p, c, ho⟩ := Rdr.open_ h
  refine br_false rfl <| nn_ok <| ldI_ok (ho.left.cell (i := 1) rfl) <| call_mono (wire_Reader_Num_ok h hat hb hr) ?_
  rintro _ w1 ⟨rfl, hat1, h1⟩
  rcases hr4 : readR bs at_ 4 with ⟨n, k, e⟩
  rw [hr4] at hR hN h1 hat1
  dsimp only at hR hN h1 hat1 ⊢
  have hT : textR bs at_ most = if e ≠ 0 then ([], at_, e) else if most < 0 ∨ n > most then ([], at_, 20) else if n > ((bs.length - k : Nat) : Int) then ([], at_, 6) else ((bs.drop k).take n.toNat, k + n.toNat, 0) := by
    simp only [textR, hr4]
  refine ⟨_, _, rfl, fun z w' => (z ≠ 0 → textR bs at_ most = ([], at_, z)) ∧ (z = 0 → textR bs at_ most = ((bs.drop k).take n.toNat, k + n.toNat, 0) ∧ n ≤ ((bs.length - k : Nat) : Int)) ∧ Sat w₀ (Rdr g bs k * F) w', ?_, ?_⟩
  · refine br_split (fun h => ?_) (fun h => ?_)
    · have he : e ≠ 0 := by simpa using h
      exact ⟨fun _ => by rw [hT, if_pos he], fun h => absurd h he, h1⟩
    · have he : e = 0 := by simpa using h
      rw [if_neg (by simpa using he)] at hT
      refine br_dec (fun hlt => ⟨fun _ => by rw [hT, if_pos (.inl hlt)], fun h => absurd h (by decide), h1⟩) (fun hge => ?_)
      refine arith_u64 (by omega) (by omega) <| br_dec (fun hgt => ⟨fun _ => by rw [hT, if_pos (.inr hgt)], fun h => absurd h (by decide), h1⟩) (fun hle => ?_)
      rw [if_neg (by omega)] at hT
      refine call_mono (wire_Left_ok h1 hat1 hb) ?_
      rintro _ w2 ⟨rfl, h2⟩
      refine asI_ok <| arith_u64 (by omega) (by omega) <| br_dec (fun hgt => ⟨fun _ => by rw [hT, if_pos hgt], fun h => absurd h (by decide), h2⟩) (fun hle2 => ?_)
      rw [if_neg hle2] at hT
      exact ⟨fun h => absurd he h, fun _ => ⟨hT, by omega⟩, h2⟩
  · rintro u z w3 ⟨hz1, hz2, h3⟩
    obtain ⟨p, c, h3⟩ := Rdr.open_ h3
    refine br_split (fun hz => ?_) (fun hz => ?_)
    · rw [hz1 (by simpa using hz)]
      exact nn_ok <| st_ok (i := 1) h3 (by simp) fun w4 h4 => ⟨none, 0, rfl, (Rdr.shut (p := p) (l := bs.length) (c := c) h4).own_nil _ _⟩
    · obtain ⟨ht, hle⟩ := hz2 (by simpa using hz)
      rw [ht]
      have h3 := h3.drew
      have hcap := h3.right.left.own_cap
      obtain ⟨m, rfl⟩ : ∃ m : Nat, n = m := ⟨n.toNat, by omega⟩
      refine nn_ok <| ldS_ok (h3.left.cell (i := 0) rfl) <| nn_ok <| ldI_ok (h3.left.cell (i := 1) rfl) <| nn_ok <| ldI_ok (h3.left.cell (i := 1) rfl) <| arith_i64 (by omega) (by omega) <| arith_i64 (by omega) (by omega) <| slc_ok (by omega) (by omega) (by omega) ?_
      have e1 : ((k : Int) + (m : Int)).toNat = k + m := by omega
      rw [e1, Int.toNat_natCast, Int.toNat_natCast]
      have hg : Gives (blk g #[.slice p bs.length c, .int .i64 k] T_wire_Reader * (own T_uint8 1 p bs.length c (by8 bs) * F)) 1 (if c = k then p else p.map (·.add (k * 1))) (k + m - k) (by8 ((bs.drop k).take (k + m - k))) :=
        Gives.right (Gives.left (Gives.sub8 Gives.own (by omega) (by omega) hcap))
      rw [show k + m - k = m by omega] at hg ⊢
      have hlen : ((bs.drop k).take m).length = m := by rw [List.length_take, List.length_drop]; omega
      refine call_mono (bytes_Clone_ok h3 hg (by omega)) ?_
      rintro _ w4 ⟨q, d, rfl, h4⟩
      refine asS_ok <| nn_ok <| ldI_ok (h4.right.left.cell (i := 1) rfl) <| arith_i64 (by omega) (by omega) <| arith_i64 (by omega) (by omega) <| nn_ok <| st_ok (i := 1) h4.p1 (by simp) fun w5 h5 => ⟨q, d, by rw [hlen], ?_⟩
      have h6 : Sat w₀ (Rdr g bs (k + m) * (own T_uint8 1 q m d (by8 ((bs.drop k).take m)) * F)) w5 := by
        refine Rdr.shut (p := p) (l := bs.length) (c := c) (h5.perm ?_)
        have e : (k : Int) + (m : Int) = ((k + m : Nat) : Int) := by omega
        rw [e]
        show blk g #[.slice p bs.length c, .int .i64 ((k + m : Nat) : Int)] T_wire_Reader * _ = _
        ac_rfl
      rw [hlen]
      exact h6.p1

theorem tenonref01_Pick_ok (x n : Int) (h0 : -9223372036854775808 ≤ x) (h1 : x ≤ 9223372036854775807) (h2 : -9223372036854775808 ≤ n) (h3 : n ≤ 9223372036854775807) :
    ∃ k : Int, PureCall Try.prog fn_tenonref01_Pick #[.int .i64 x, .int .i64 n] (.int .i64 k) ∧ 0 ≤ k ∧ (1 ≤ n → k < n) ∧ (n < 1 → k = 0) := by
  by_cases hn : n < 1
  · refine ⟨0, fun w => ?_, by omega, by omega, fun _ => rfl⟩
    apply tenonref01_Pick_call
    unfold tenonref01_Pick
    exact br_true (by simpa using hn) ⟨rfl, rfl⟩
  · have hb : -n < x.tmod n ∧ x.tmod n < n := by
      have h4 := Int.tmod_lt_of_pos x (show 0 < n by omega)
      have h5 : -n < x.tmod n := by
        by_cases hx : 0 ≤ x
        · have := Int.tmod_nonneg n hx
          omega
        · have h6 := Int.tmod_lt_of_pos (-x) (show 0 < n by omega)
          rw [Int.neg_tmod] at h6
          omega
      exact ⟨h5, h4⟩
    by_cases hneg : x.tmod n < 0
    · refine ⟨x.tmod n + n, fun w => ?_, by omega, by omega, by omega⟩
      apply tenonref01_Pick_call
      unfold tenonref01_Pick
      exact br_false (by simpa using hn) ⟨by omega, br_true (by simpa using hneg) <| arith_i64 (by omega) (by omega) ⟨rfl, rfl⟩⟩
    · refine ⟨x.tmod n, fun w => ?_, by omega, by omega, by omega⟩
      apply tenonref01_Pick_call
      unfold tenonref01_Pick
      exact br_false (by simpa using hn) ⟨by omega, br_false (by simpa using hneg) ⟨rfl, rfl⟩⟩

theorem tenonref05_Read_ok {w : World} {p : Option Addr} {c at_ : Nat} {bs : List Int} {size : Int} (hx : Rd w 1 p bs.length (by8 bs)) (hat : at_ ≤ bs.length) (hb : bs.length ≤ 140737488355328) (hr : ∀ b ∈ bs, 0 ≤ b ∧ b ≤ 255) :
    PureCall' fn_tenonref05_Read #[.slice p bs.length c, .int .i64 at_, .int .i64 size] w (.tuple #[.int .u64 (readR bs at_ size).1, .int .i64 (readR bs at_ size).2.1, .int .i64 (readR bs at_ size).2.2]) := by
  apply tenonref05_Read_call
  unfold tenonref05_Read
  refine call_pure (tenonref05_Fits_ok size) <| asB_ok ?_
  cases hf : fitsB size with
  | false =>
    have hR : readR bs at_ size = (0, at_, 1) := by simp [readR, hf]
    rw [hR]
    exact br_true rfl ⟨rfl, rfl⟩
  | true =>
    have hs := fitsB_pos hf
    have hg := gapI_le (a := at_) (s := size) hs.1
    obtain ⟨m, hm⟩ : ∃ m : Nat, gapI at_ size = m := ⟨(gapI at_ size).toNat, by omega⟩
    have hR : readR bs at_ size = if bs.length < at_ + m + size.toNat then (0, at_, 6) else if ((bs.drop at_).take m).all (· == 0) = false then (0, at_, 5) else (le ((bs.drop (at_ + m)).take size.toNat), at_ + m + size.toNat, 0) := by
      simp only [readR, hf, hm, Int.toNat_natCast]
      rfl
    rw [hR]
    refine br_false rfl ⟨fun k w' n => ∃ j : Nat, k = ((at_ + j : Nat) : Int) ∧ j ≤ m ∧ n = m - j ∧ w' = w, ⟨_, 0, by simp, by omega, rfl, rfl⟩, ?_⟩
    rintro u _ w1 n ⟨j, rfl, hj, rfl, rfl⟩
    refine rem_ok (by omega) (by omega) <| br_split (fun hne => ?_) (fun he => ?_)
    · have hlt := (gap_more hf (a := at_) (k := j) (by omega)).1 (by simpa using hne)
      exact arith_i64 (by omega) (by omega) ⟨_, by omega, j + 1, by omega, by omega, rfl, rfl⟩
    · have hjm : j = m := by
        have := mt (gap_more hf (a := at_) (k := j) (by omega)).2 (by simpa using he)
        omega
      subst hjm
      refine arith_i64 (by omega) (by omega) <| br_dec (fun hlt => ?_) (fun hge => ?_)
      · rw [if_pos (by omega)]
        exact ⟨rfl, rfl⟩
      · rw [if_neg (by omega)]
        refine ⟨fun i w' n => at_ ≤ i ∧ i ≤ ((at_ + j : Nat) : Int) ∧ n = (((at_ + j : Nat) : Int) - i).toNat ∧ (∀ q : Nat, q < i.toNat - at_ → ((bs.drop at_).take j)[q]? = some 0) ∧ w' = w1, ⟨_, by omega, by omega, rfl, fun q hq => absurd hq (by simp), rfl⟩, ?_⟩
        rintro u i w2 n ⟨hi0, hi1, rfl, hz, rfl⟩
        refine br_dec (fun hi => idx8 hx (by omega) (by omega) (Same.refl _) fun a x hxa hca => ldI_ok hca <| br_split (fun hne => ?_) (fun he0 => ?_)) (fun hi => ?_)
        · have hget : ((bs.drop at_).take j)[i.toNat - at_]? = some x := by
            rw [List.getElem?_take, if_pos (by omega), List.getElem?_drop, show at_ + (i.toNat - at_) = i.toNat by omega]
            exact hxa
          have hf0 : ((bs.drop at_).take j).all (· == 0) = false := by
            rw [List.all_eq_false]
            exact ⟨x, List.mem_iff_getElem?.2 ⟨_, hget⟩, by simpa using hne⟩
          rw [hf0, if_pos rfl]
          exact ⟨rfl, rfl⟩
        · refine arith_i64 (by omega) (by omega) ⟨_, by omega, by omega, by omega, rfl, fun q hq => ?_, rfl⟩
          by_cases hq2 : q < i.toNat - at_
          · exact hz q hq2
          · have hget : ((bs.drop at_).take j)[i.toNat - at_]? = some x := by
              rw [List.getElem?_take, if_pos (by omega), List.getElem?_drop, show at_ + (i.toNat - at_) = i.toNat by omega]
              exact hxa
            have e : q = i.toNat - at_ := by omega
            rw [e, hget]
            simpa using he0
        · have hall : ((bs.drop at_).take j).all (· == 0) = true := by
            rw [List.all_eq_true]
            intro x hx
            obtain ⟨q, hq⟩ := List.mem_iff_getElem?.1 hx
            have hql := (List.getElem?_eq_some_iff.1 hq).1
            rw [List.length_take] at hql
            have := hz q (by omega)
            rw [hq] at this
            simpa using this
          rw [hall, if_neg (by simp)]
          obtain ⟨k8, hk8⟩ : ∃ k : Nat, size = k := ⟨size.toNat, by omega⟩
          subst hk8
          simp only [Int.toNat_natCast] at hge ⊢
          refine arith_i64 (by omega) (by omega) ⟨fun x i w' n => -1 ≤ i ∧ i ≤ k8 - 1 ∧ n = (i + 1).toNat ∧ x = le ((bs.drop (at_ + j + (i + 1).toNat)).take (k8 - (i + 1).toNat)) ∧ w' = w2, ⟨_, by omega, by omega, rfl, ?_, rfl⟩, ?_⟩
          · rw [show k8 - ((k8 : Int) - 1 + 1).toNat = 0 by omega]; simp [le]
          rintro u x i w3 n ⟨hi0, hi1, rfl, rfl, rfl⟩
          have hrt : ∀ b ∈ (bs.drop (at_ + j + (i + 1).toNat)).take (k8 - (i + 1).toNat), 0 ≤ b ∧ b ≤ 255 := fun b hb => hr b (List.mem_of_mem_drop (List.mem_of_mem_take hb))
          have hler := le_range _ hrt
          refine br_dec (fun hi => ?_) (fun hi => ?_)
          · have hll : ((bs.drop (at_ + j + (i + 1).toNat)).take (k8 - (i + 1).toNat)).length ≤ 7 := by rw [List.length_take]; omega
            have hpw : (256 : Int) ^ ((bs.drop (at_ + j + (i + 1).toNat)).take (k8 - (i + 1).toNat)).length ≤ 256 ^ 7 := pow256_le hll
            refine arith_u64 (by omega) (by omega) <| arith_i64 (by omega) (by omega) <| idx8 hx (by omega) (by omega) (Same.refl _) fun a y hya hca => ldI_ok hca ?_
            have hyr := hr y (List.mem_iff_getElem?.2 ⟨_, hya⟩)
            refine arith_u64 (by omega) (by omega) <| arith_u64 (by omega) (by omega) <| arith_i64 (by omega) (by omega) ⟨_, by omega, by omega, by omega, rfl, ?_, rfl⟩
            have e1 : (i - 1 + 1).toNat = i.toNat := by omega
            have e2 : (i + 1).toNat = i.toNat + 1 := by omega
            have e3 : ((((at_ + j : Nat) : Int)) + i).toNat = at_ + j + i.toNat := by omega
            rw [e3] at hya
            obtain ⟨hyl, hye⟩ := List.getElem?_eq_some_iff.1 hya
            rw [e1, e2, List.drop_eq_getElem_cons (by omega : at_ + j + i.toNat < bs.length), hye, show k8 - i.toNat = k8 - (i.toNat + 1) + 1 by omega, List.take_succ_cons, le, Nat.add_assoc (at_ + j)]
            omega
          · have : i = -1 := by omega
            subst this
            refine arith_i64 (by omega) (by omega) ⟨?_, rfl⟩
            simp

/-! ### what was laid is read back -/
theorem readR_form {pre rest : List Int} {n size : Int} (hf : fitsB size = true) (h0 : 0 ≤ n) (h1 : n < 256 ^ size.toNat) :
    readR (pre ++ (form pre.length n size ++ rest)) pre.length size = (n, pre.length + (form pre.length n size).length, 0) := by
  have hs := fitsB_pos hf
  have hg := gapI_le (a := pre.length) (s := size) hs.1
  obtain ⟨m, hm⟩ : ∃ m : Nat, gapI pre.length size = m := ⟨(gapI pre.length size).toNat, by omega⟩
  have hfl := form_length pre.length n size hs.1
  have hd : (pre ++ (form pre.length n size ++ rest)).drop pre.length = List.replicate m 0 ++ (lay n size.toNat ++ rest) := by
    rw [List.drop_left, form, hm, List.append_assoc]; simp
  unfold readR
  rw [hf, hm, Int.toNat_natCast]
  rw [if_neg (by simp)]
  dsimp only
  rw [if_neg (by simp only [List.length_append, hfl, hm]; omega), hd]
  rw [List.take_left' (by simp), if_neg (by simp)]
  have hd2 : (pre ++ (form pre.length n size ++ rest)).drop (pre.length + m) = lay n size.toNat ++ rest := by
    rw [← List.drop_drop, hd, List.drop_left' (by simp)]
  rw [hd2, List.take_left' (lay_length _ _), le_lay n _ h0 h1, hfl, hm, Int.toNat_natCast]
  congr 2
  omega
end Go.Proofs.Ytmecgkeplkchcaa
