/- WireShort: the walk. No conditions. -/
import Derived.Test.YtagcmablmogofaaW9
set_option linter.unusedVariables false
set_option linter.unusedSimpArgs false
namespace Go.Proofs.Ytagcmablmogofaa
open Go.Sp Go.RowKit

/-- Numbers alone, one behind the other. -/
def nl (pre : List Int) : List ItemD → List Int
  | [] => pre
  | y :: ys => nl (pre ++ form pre.length y.n y.size) ys
theorem nl_append (ys zs : List ItemD) : ∀ pre, nl pre (ys ++ zs) = nl (nl pre ys) zs := by
  induction ys with
  | nil => intro pre; rfl
  | cons y ys ih => intro pre; exact ih _
theorem nl_more (ys : List ItemD) : ∀ pre, ∃ r, nl pre ys = pre ++ r := by
  induction ys with
  | nil => intro pre; exact ⟨[], by simp [nl]⟩
  | cons y ys ih =>
    intro pre
    obtain ⟨r, hr⟩ := ih (pre ++ form pre.length y.n y.size)
    exact ⟨form pre.length y.n y.size ++ r, by rw [nl, hr, List.append_assoc]⟩
def GoodN (x : ItemD) : Prop := fitsB x.size = true ∧ x.n < 256 ^ x.size.toNat
theorem intsTy : SliceTy Try.prog T_sl_int T_int (.int .i64 0) 1 8 := ⟨by kernel_rfl, by kernel_rfl, rfl, by decide⟩
theorem form_le {a : Nat} {x : ItemD} (h : GoodN x) : (form a x.n x.size).length ≤ 16 := by
  have hs := fitsB_pos h.1
  have h1 := form_length a x.n x.size hs.1
  have h2 := gapI_le (a := a) (s := x.size) hs.1
  omega
theorem readR_cut {B pre rest : List Int} {n size : Int} {k : Nat} (hf : fitsB size = true) (h0 : 0 ≤ n) (h1 : n < 256 ^ size.toNat) (hB : B = pre ++ (form pre.length n size ++ rest)) (hk : pre.length ≤ k) (hkB : k ≤ B.length) :
    readR (B.take k) pre.length size = if (pre ++ form pre.length n size).length ≤ k then (n, (pre ++ form pre.length n size).length, 0) else (0, pre.length, 6) := by
  split
  · rename_i hle
    subst hB
    rw [← List.append_assoc, List.take_append, List.take_of_length_le hle, List.append_assoc, readR_form hf h0 h1, List.length_append]
  · rename_i hgt
    have hs := fitsB_pos hf
    have hg := gapI_le (a := pre.length) (s := size) hs.1
    have hfl := form_length pre.length n size hs.1
    rw [List.length_append] at hgt
    have hlen : (B.take k).length = k := by rw [List.length_take]; omega
    unfold readR
    rw [hf, if_neg (by simp)]
    dsimp only
    rw [hlen, if_pos (by omega)]

theorem WireShort_walk {W : World} {p : Option Addr} {l c : Nat} {xs : List ItemD} {cut : Int} (hx : Items W p l xs) (hl : l ≤ 9223372036854775807) (hc0 : -9223372036854775808 ≤ cut) (hc1 : cut ≤ 9223372036854775807) :
    call Try.prog fn_tenonlaw05_WireShort #[.slice p l c, .int .i64 cut] W fun v w' => v = .bool true ∧ Below W.heap.size W w' := by
  apply tenonlaw05_WireShort_call
  unfold tenonlaw05_WireShort
  refine call_mono (wire_NewWriter_ok (Sat.start W)) ?_
  rintro _ w2 ⟨g, rfl, h2⟩
  refine asP_ok ⟨fun pe le ce q lq d w => ∃ (ys : List ItemD) (es : List Value), ys.length ≤ 40 ∧ (nl [] ys).length ≤ 16 * ys.length ∧ (∀ y ∈ ys, ItemOk W y ∧ GoodN y) ∧ (∀ b ∈ nl [] ys, 0 ≤ b ∧ b ≤ 255) ∧
      (∀ j, j < ys.length → es[j]? = some (.int .i64 (nl [] (ys.take (j + 1))).length)) ∧ Sat W (own T_int 1 pe le ce es * (Laid q lq d ys * (Wr g (nl [] ys) * old W))) w ∧ es.length = ys.length, ?_, ?_⟩
  · refine ⟨fun pe le ce q lq d i w m => ∃ (ys : List ItemD) (es : List Value), 0 ≤ i ∧ i ≤ 40 ∧ ys.length ≤ i ∧ m = 40 - i.toNat ∧ (nl [] ys).length ≤ 16 * ys.length ∧ (∀ y ∈ ys, ItemOk W y ∧ GoodN y) ∧ (∀ b ∈ nl [] ys, 0 ≤ b ∧ b ≤ 255) ∧
      (∀ j, j < ys.length → es[j]? = some (.int .i64 (nl [] (ys.take (j + 1))).length)) ∧ Sat W (own T_int 1 pe le ce es * (Laid q lq d ys * (Wr g (nl [] ys) * old W))) w ∧ es.length = ys.length,
      ⟨40, [], [], by omega, by omega, by simp, rfl, by simp [nl], by simp, by simp [nl], by simp, (h2.own_nil T_tenonlaw05_Item 4).own_nil T_int 1, rfl⟩, ?_⟩
    rintro u pe le ce q lq d i w3 m ⟨ys, es, h0, h1, hyl, rfl, hlen, hok, hb, hes, h3, hel⟩
    have hyq := Laid.len h3.right.left
    have hee := h3.left.own_len
    refine br_dec (fun hlt => br_dec (fun hlt2 => ?_) (fun hge => ⟨ys, es, by omega, hlen, hok, hb, hes, h3, hel⟩)) (fun hge => ⟨ys, es, by omega, hlen, hok, hb, hes, h3, hel⟩)
    have h3 := h3.drew
    refine hx.idx h3.right.right.right h0 hlt fun a x hxa ha hA => ldI_ok ha.c1 <| hx.idx' h3.right.right.right h0 hlt hxa fun a ha => ldI_ok ha.c2 ?_
    cases hfr : (fitsB x.size && roomB x.n x.size) with
    | true =>
      simp only [Bool.and_eq_true] at hfr
      have hroom := roomB_true ha.n0 hfr.2
      have hgood : GoodN x := ⟨hfr.1, hroom⟩
      have hfl := form_le (a := (nl [] ys).length) hgood
      refine call_mono (wire_Num_ok (h3.perm (B := Wr g (nl [] ys) * (own T_int 1 pe le ce es * (Laid q lq d ys * old W))) (by ac_rfl)) hfr.1 ha.n0 hroom (by omega)) ?_
      rintro _ w4 ⟨rfl, h4⟩
      have hnl : nl [] (ys ++ [x]) = nl [] ys ++ form (nl [] ys).length x.n x.size := by rw [nl_append]; rfl
      rw [← hnl] at h4
      refine asI_ok <| br_true rfl <| hx.idx' h4.right.right.right h0 hlt hxa fun a ha => ha.ld <| Laid.more (x := x) (F := own T_int 1 pe le ce es * (Wr g (nl [] (ys ++ [x])) * old W)) (h4.perm (by ac_rfl)) (by omega) fun p' c' w5 h5 => ?_
      have hlen2 : (nl [] (ys ++ [x])).length ≤ 16 * (ys ++ [x]).length := by rw [hnl, List.length_append, List.length_append, List.length_singleton]; omega
      have hyx : (ys ++ [x]).length = ys.length + 1 := by simp
      refine call_mono (wire_Bytes_ok (F := Laid p' (lq + 1) c' (ys ++ [x]) * (own T_int 1 pe le ce es * old W)) (h5.perm (by ac_rfl)) (by omega)) ?_
      rintro _ w6 ⟨q6, d6, rfl, h6⟩
      refine asS_ok <| new_ok h6.right fun k w7 h7 => app1_ok intsTy (F := Wr g (nl [] (ys ++ [x])) * (Laid p' (lq + 1) c' (ys ++ [x]) * old W)) (h7.perm (by ac_rfl)) rfl (by simp only [maxLen]; omega) (by omega) fun p8 c8 w8 h8 => arith_i64 (by omega) (by omega) ⟨_, by omega, ys ++ [x], es ++ [.int .i64 (nl [] (ys ++ [x])).length], by omega, by omega, by rw [hyx]; omega, rfl, hlen2, ?_, ?_, ?_, h8.perm (by ac_rfl), by simp [hel]⟩
      · intro y hy
        rcases List.mem_append.1 hy with hy | hy
        · exact hok y hy
        · rw [List.mem_singleton] at hy
          subst hy
          exact ⟨hA.ok, hgood⟩
      · intro b hbm
        rw [hnl] at hbm
        rcases List.mem_append.1 hbm with hbm | hbm
        · exact hb b hbm
        · exact form_range _ _ _ b hbm
      · intro j hj
        rw [hyx] at hj
        by_cases hjl : j < ys.length
        · rw [List.getElem?_append_left (by omega), hes j hjl, List.take_append_of_le_length (by omega)]
        · have : j = es.length := by omega
          subst this
          rw [List.getElem?_concat_length, List.take_of_length_le (by omega)]
    | false =>
      refine call_mono (wire_Num_no h3 hfr ha.n0 ha.n1) ?_
      rintro _ w4 ⟨rfl, h4⟩
      exact asI_ok <| br_false rfl <| arith_i64 (by omega) (by omega) ⟨_, by omega, ys, es, by omega, by omega, by omega, rfl, hlen, hok, hb, hes, h4, hel⟩
  · rintro u pe le ce q lq d w3 ⟨ys, es, hyl, hlen, hok, hr, hes, h3, hel⟩
    have hyq := Laid.len h3.right.left
    have hee := h3.left.own_len
    refine call_mono (wire_Bytes_ok (F := Laid q lq d ys * (own T_int 1 pe le ce es * old W)) (h3.perm (by ac_rfl)) (by omega)) ?_
    rintro _ w4 ⟨q1, d1, rfl, h4⟩
    refine asS_ok <| arith_i64 (by omega) (by omega) ?_
    obtain ⟨k, hpk, hk0, hk1, _⟩ := tenonref01_Pick_ok cut ((nl [] ys).length + 1) hc0 hc1 (by omega) (by omega)
    have hk1 := hk1 (by omega)
    obtain ⟨k, rfl⟩ : ∃ j : Nat, k = j := ⟨k.toNat, by omega⟩
    have hcap := h4.left.own_cap
    refine call_pure hpk <| asI_ok <| slc_ok (by omega) (by omega) (by omega) ?_
    generalize hB : nl [] ys = B at *
    have hgv : Gives (own T_uint8 1 q1 B.length d1 (by8 B) * (Wr g B * (Laid q lq d ys * (own T_int 1 pe le ce es * old W)))) 1 (if d1 = 0 then q1 else q1.map (·.add (0 * 1))) (k - 0) (by8 ((B.drop 0).take (k - 0))) :=
      Gives.left (Gives.sub8 Gives.own (by omega) (by omega) hcap)
    rw [List.drop_zero, Nat.sub_zero] at hgv
    rw [show (k : Int).toNat = k by omega, show (0 : Int).toNat = 0 by rfl, Nat.sub_zero]
    refine call_mono (wire_NewReader_ok h4 hgv (by omega)) ?_
    rintro _ w5 ⟨g2, rfl, h5⟩
    have h5 : Sat W (Rdr g2 (B.take k) 0 * (Laid q lq d ys * (own T_int 1 pe le ce es * old W))) w5 := h5.p1.right.p1.right
    have hlk : (B.take k).length = k := by rw [List.length_take]; omega
    have hrk : ∀ b ∈ B.take k, 0 ≤ b ∧ b ≤ 255 := fun b hb => hr b (List.mem_of_mem_take hb)
    refine asP_ok ⟨fun i w m => ∃ j : Nat, i = j ∧ j ≤ ys.length ∧ m = ys.length - j ∧ (nl [] (ys.take j)).length ≤ k ∧ Sat W (Rdr g2 (B.take k) (nl [] (ys.take j)).length * (Laid q lq d ys * (own T_int 1 pe le ce es * old W))) w, ⟨_, 0, rfl, by omega, rfl, by simp [nl], by simpa [nl] using h5⟩, ?_⟩
    rintro u _ w6 m ⟨j, rfl, hj, rfl, hjk, h6⟩
    refine br_dec (fun hlt => ?_) (fun hge => ?_)
    · obtain ⟨y, hy⟩ : ∃ y, ys[j]? = some y := ⟨ys[j]'(by omega), by simp⟩
      have hyo := hok y (List.mem_iff_getElem?.2 ⟨_, hy⟩)
      have hgood := hyo.2
      have hdrop : ys.drop j = y :: ys.drop (j + 1) := by
        obtain ⟨hkl, he⟩ := List.getElem?_eq_some_iff.1 hy
        rw [List.drop_eq_getElem_cons hkl, he]
      have htake : nl [] (ys.take (j + 1)) = nl [] (ys.take j) ++ form (nl [] (ys.take j)).length y.n y.size := by
        rw [List.take_add_one, hy]
        simp [nl_append, nl]
      have hBs : ∃ r, B = nl [] (ys.take j) ++ (form (nl [] (ys.take j)).length y.n y.size ++ r) := by
        obtain ⟨r, hr⟩ := nl_more (ys.drop (j + 1)) (nl [] (ys.take (j + 1)))
        refine ⟨r, ?_⟩
        rw [← hB, ← List.append_assoc, ← htake, ← hr, ← nl_append, List.take_append_drop]
      obtain ⟨r, hBr⟩ := hBs
      have hT := readR_cut hgood.1 hyo.1.n0 hgood.2 hBr hjk (by omega)
      rw [← htake] at hT
      have hej := hes j (by omega)
      refine Laid.idx h6.right.left h6.right.right.right hyo.1 hy fun a ha => ldI_ok ha.c2 <| call_mono (wire_Reader_Num_ok h6 (by omega) (by omega) hrk) ?_
      rw [hT]
      have he : ∀ {w F} {K : Int → Prop}, Sat W (Rdr g2 (B.take k) F * (Laid q lq d ys * (own T_int 1 pe le ce es * old W))) w → K ((nl [] (ys.take (j + 1))).length : Int) → Sp.idx pe le (j : Int) 1 fun a => ldI .i64 a w K := by
        intro w F K h hk
        refine idx_ok h.right.right.left.rd (by omega) (by omega) fun a e => ldI_ok (h.right.right.left.rd.get e ?_) hk
        rw [Int.toNat_natCast, Nat.mul_one]
        exact hej
      by_cases hle : (nl [] (ys.take (j + 1))).length ≤ k
      · rw [if_pos hle]
        dsimp only
        rintro _ w7 ⟨rfl, _, h7⟩
        refine ⟨_, _, rfl, he h7 <| br_true (by simpa using hle) <| br_false rfl <| Laid.idx h7.right.left h7.right.right.right hyo.1 hy fun a ha => ldI_ok ha.c1 <| br_false (by simp) <| he h7 <| br_false (by simp; omega) <| arith_i64 (by omega) (by omega) ⟨_, by omega, j + 1, by omega, by omega, rfl, hle, h7⟩⟩
      · rw [if_neg hle]
        dsimp only
        rintro _ w7 ⟨rfl, _, h7⟩
        refine ⟨_, _, rfl, he h7 <| br_false (by simp; omega) <| he h7 <| br_true (by simp; omega) <| br_true rfl <| call_mono (tenonlaw05_awake_ok h7) ?_⟩
        rintro _ w9 ⟨rfl, h9⟩
        exact asB_ok ⟨rfl, h9.right.right.right.below'⟩
    · refine call_mono (tenonlaw05_awake_ok h6) ?_
      rintro _ w9 ⟨rfl, h9⟩
      exact asB_ok ⟨rfl, h9.right.right.right.below'⟩
theorem WireShort_row {W : World} {v : Value} {cut : Int} (h : ∃ p l c xs, v = .slice p l c ∧ l ≤ 9223372036854775807 ∧ Items W p l xs) (hc : IntKind.i64.min ≤ cut ∧ cut ≤ IntKind.i64.max) :
    call Try.prog fn_tenonlaw05_WireShort #[v, .int .i64 cut] W fun v w' => v = .bool true ∧ Below W.heap.size W w' := by
  obtain ⟨p, l, c, xs, rfl, hl, hx⟩ := h
  exact WireShort_walk hx hl hc.1 hc.2
end Go.Proofs.Ytagcmablmogofaa
