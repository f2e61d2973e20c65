/- WireAligned: the walk. No conditions. -/
import Derived.Test.YtagcmablmogofaaW3
set_option linter.unusedVariables false
set_option linter.unusedSimpArgs false
namespace Go.Proofs.Ytagcmablmogofaa
open Go.Sp Go.RowKit

theorem gap_done {a : Nat} {size : Int} (hf : fitsB size = true) {m : Nat} (hm : gapI a size = m) : ((a + m : Nat) : Int) % size = 0 := by
  have := mt (gap_more hf (a := a) (k := m) (by omega)).1 (by omega)
  omega
theorem WireAligned_walk {W : World} {p : Option Addr} {l c : Nat} {xs : List ItemD} (hx : Items W p l xs) (hl : l ≤ 9223372036854775807) :
    call Try.prog fn_tenonlaw05_WireAligned #[.slice p l c] W fun v w' => v = .bool true ∧ Below W.heap.size W w' := by
  apply tenonlaw05_WireAligned_call
  unfold tenonlaw05_WireAligned
  refine call_mono (wire_NewWriter_ok (Sat.start W)) ?_
  rintro _ w1 ⟨g, rfl, h1⟩
  refine asP_ok ⟨fun i w m => ∃ bs : List Int, 0 ≤ i ∧ i ≤ 60 ∧ m = 60 - i.toNat ∧ (bs.length : Int) ≤ 16 * i ∧ Sat W (Wr g bs * old W) w, ⟨_, [], by omega, by omega, rfl, by simp, h1⟩, ?_⟩
  rintro u i w2 m ⟨bs, h0, h1, rfl, hlen, h2⟩
  have fin : ∀ {w F}, Sat W (F * old W) w → call Try.prog fn_tenonlaw05_awake #[] w fun v46 w7 => asB v46 fun b47 => (fun v w' => v = Value.bool true ∧ Below W.heap.size W w') (.bool b47) w7 := by
    intro w F h
    refine call_mono (tenonlaw05_awake_ok h) ?_
    rintro _ w7 ⟨rfl, h7⟩
    exact asB_ok ⟨rfl, h7.right.below'⟩
  refine br_dec (fun hlt => br_dec (fun hlt2 => ?_) (fun hge => fin h2)) (fun hge => fin h2)
  refine hx.idx h2.right h0 hlt fun a x hxa ha hA => ldB_ok (by rw [add_zero]; exact ha.c0) <| br_split (fun ht => arith_i64 (by omega) (by omega) ⟨_, by omega, bs, by omega, by omega, rfl, by omega, h2⟩) fun ht => ?_
  refine call_mono (wire_Bytes_ok h2 (by omega)) ?_
  rintro _ w3 ⟨q1, d1, rfl, h3⟩
  refine asS_ok <| hx.idx' (x := x) (h3.drew.right.right) h0 hlt hxa fun a ha => ldI_ok ha.c1 <| hx.idx' (h3.drew.right.right) h0 hlt hxa fun a ha => ldI_ok ha.c2 ?_
  cases hok : (fitsB x.size && roomB x.n x.size) with
  | false =>
    refine call_mono (wire_Num_no h3.drew hok ha.n0 ha.n1) ?_
    rintro _ w4 ⟨rfl, h4⟩
    exact asI_ok <| br_true rfl <| arith_i64 (by omega) (by omega) ⟨_, by omega, bs, by omega, by omega, rfl, by omega, h4.right⟩
  | true =>
    simp only [Bool.and_eq_true] at hok
    have hf := hok.1
    have hs := fitsB_true hf
    refine call_mono (wire_Num_ok h3.drew.p1 hf ha.n0 (roomB_true ha.n0 hok.2) (by omega)) ?_
    rintro _ w4 ⟨rfl, h4⟩
    have hg := gapI_le (a := bs.length) (s := x.size) (by omega)
    obtain ⟨m, hm⟩ : ∃ m : Nat, gapI bs.length x.size = m := ⟨(gapI bs.length x.size).toNat, by omega⟩
    have hfl := form_length bs.length x.n x.size (by omega)
    have hlen4 : (bs ++ form bs.length x.n x.size).length = bs.length + m + x.size.toNat := by rw [List.length_append, hfl, hm]; omega
    refine asI_ok <| br_false rfl <| call_mono (wire_Bytes_ok h4 (by omega)) ?_
    rintro _ w5 ⟨q2, d2, rfl, h5⟩
    have ho := h5.right.right.right
    refine asS_ok <| hx.idx' ho h0 hlt hxa fun a ha => ldI_ok ha.c2 ?_
    rw [hlen4]
    refine arith_i64 (by omega) (by omega) <| hx.idx' ho h0 hlt hxa fun a ha => ldI_ok ha.c2 <| br_false (by simp; omega) <| hx.idx' ho h0 hlt hxa fun a ha => ldI_ok ha.c2 <| rem_ok (by omega) (by omega) ?_
    have e1 : ((bs.length + m + x.size.toNat : Nat) : Int) - x.size = ((bs.length + m : Nat) : Int) := by omega
    rw [e1]
    refine br_false (by simpa using gap_done hf hm) <| br_false (by simp; omega) <| arith_i64 (by omega) (by omega) <| hx.idx' ho h0 hlt hxa fun a ha => ldI_ok ha.c2 <| br_false (by simp; omega) ?_
    rw [hlen4] at h5
    refine ⟨fun k w' n => bs.length ≤ k ∧ k ≤ ((bs.length + m : Nat) : Int) ∧ n = (((bs.length + m : Nat) : Int) - k).toNat ∧ w' = w5, ⟨_, by omega, by omega, rfl, rfl⟩, ?_⟩
    rintro u k w6 n ⟨hk0, hk1, rfl, rfl⟩
    refine br_dec (fun hk => br_false (by simp; omega) <| idx8 h5.left.rd (by omega) (by omega) (Same.refl _) fun a b hb hc => ldI_ok hc <| br_false ?_ <| arith_i64 (by omega) (by omega) ⟨_, by omega, by omega, by omega, rfl, rfl⟩) fun hk => ?_
    · have e2 : (bs ++ form bs.length x.n x.size)[k.toNat]? = some 0 := by
        rw [List.getElem?_append_right (by omega), form, hm, List.getElem?_append_left (by simp; omega), List.getElem?_replicate, if_pos (by simp; omega)]
      rw [e2] at hb
      have : b = 0 := by simpa using hb.symm
      simp [this]
    · exact arith_i64 (by omega) (by omega) ⟨_, by omega, bs ++ form bs.length x.n x.size, by omega, by omega, rfl, by omega, h5.right.p1.right⟩
theorem WireAligned_row {W : World} {v : Value} (h : ∃ p l c xs, v = .slice p l c ∧ l ≤ 9223372036854775807 ∧ Items W p l xs) :
    call Try.prog fn_tenonlaw05_WireAligned #[v] W fun v w' => v = .bool true ∧ Below W.heap.size W w' := by
  obtain ⟨p, l, c, xs, rfl, hl, hx⟩ := h
  exact WireAligned_walk hx hl
end Go.Proofs.Ytagcmablmogofaa
