
/- Contracts of layer 7 (objref): the document's. No conditions. -/
import Derived.Test.YtjjnbcdcppnllaaO2
set_option linter.unusedVariables false
set_option linter.unusedSimpArgs false
set_option maxRecDepth 100000
namespace Go.Proofs.Ytjjnbcdcppnllaa
open Go.Sp Go.RowKit

/-! ### the plain law -/
theorem lay_le (xs : List Int) (h : ∀ b ∈ xs, 0 ≤ b ∧ b ≤ 255) : lay (le xs) xs.length = xs := by
  induction xs with
  | nil => rfl
  | cons x xs ih =>
    have h1 := h x (.head _)
    have h2 := ih fun b hb => h b (.tail _ hb)
    have h3 := le_range xs fun b hb => h b (.tail _ hb)
    simp only [le, List.length_cons, lay]
    rw [show (x + 256 * le xs) % 256 = x by omega, show (x + 256 * le xs) / 256 = le xs by omega, h2]
theorem lay_at {bs : List Int} {o n : Nat} (hr : ∀ b ∈ bs, 0 ≤ b ∧ b ≤ 255) (hl : o + n ≤ bs.length) : lay (at_ bs o n) n = (bs.drop o).take n := by
  have h := lay_le ((bs.drop o).take n) fun b hb => hr b (List.mem_of_mem_drop (List.mem_of_mem_take hb))
  have hlen : ((bs.drop o).take n).length = n := by simp; omega
  rw [hlen] at h
  exact h
theorem cuts {bs : List Int} (o n m : Nat) : (bs.drop o).take n ++ (bs.drop (o + n)).take m = (bs.drop o).take (n + m) := by
  rw [List.take_add, List.drop_drop]
theorem encL_eq (x : ORef) : encL x = lay 1464812877 4 ++ (lay x.fl 4 ++ (lay x.rf 4 ++ (lay 0 4 ++ (lay x.ox 8 ++ (lay x.oid 8 ++ x.bs))))) := by
  simp [encL, encH, lay4]
theorem encL_decX {bs : List Int} (hl : bs.length = 64) (hr : ∀ b ∈ bs, 0 ≤ b ∧ b ≤ 255) (h0 : at_ bs 0 4 = 1464812877) (h3 : at_ bs 12 4 = 0) : encL (decX bs) = bs := by
  rw [encL_eq]
  have a0 := lay_at (o := 0) (n := 4) hr (by omega)
  have a1 := lay_at (o := 4) (n := 4) hr (by omega)
  have a2 := lay_at (o := 8) (n := 4) hr (by omega)
  have a3 := lay_at (o := 12) (n := 4) hr (by omega)
  have a4 := lay_at (o := 16) (n := 8) hr (by omega)
  have a5 := lay_at (o := 24) (n := 8) hr (by omega)
  rw [h0] at a0
  rw [h3] at a3
  show lay 1464812877 4 ++ (lay (at_ bs 4 4) 4 ++ (lay (at_ bs 8 4) 4 ++ (lay 0 4 ++ (lay (at_ bs 16 8) 8 ++ (lay (at_ bs 24 8) 8 ++ (bs.drop 32).take 32))))) = bs
  rw [a0, a1, a2, a3, a4, a5, cuts 24 8 32, cuts 16 8 40, cuts 12 4 48, cuts 8 4 52, cuts 4 4 56, cuts 0 4 60]
  rw [List.drop_zero]
  exact List.take_of_length_le (by omega)
theorem at_enc {pre rest : List Int} {n : Int} {k o : Nat} (ho : pre.length = o) (h0 : 0 ≤ n) (h1 : n < 256 ^ k) : at_ (pre ++ (lay n k ++ rest)) o k = n := by
  subst ho
  unfold at_
  rw [List.drop_left, List.take_left' (lay_length _ _), le_lay n k h0 h1]
theorem decX_encL {x : ORef} (hx : OIn x) : decX (encL x) = x ∧ at_ (encL x) 0 4 = 1464812877 ∧ at_ (encL x) 12 4 = 0 := by
  have h1 := hx.fl
  have h2 := hx.rf
  have h3 := hx.ox
  have h4 := hx.oid
  have e := encL_eq x
  have b0 := at_enc (pre := []) (rest := lay x.fl 4 ++ (lay x.rf 4 ++ (lay 0 4 ++ (lay x.ox 8 ++ (lay x.oid 8 ++ x.bs))))) (n := 1464812877) (k := 4) (o := 0) rfl (by decide) (by decide)
  have b1 := at_enc (pre := lay 1464812877 4) (rest := lay x.rf 4 ++ (lay 0 4 ++ (lay x.ox 8 ++ (lay x.oid 8 ++ x.bs)))) (n := x.fl) (k := 4) (o := 4) (by simp [lay_length]) h1.1 (by omega)
  have b2 := at_enc (pre := lay 1464812877 4 ++ lay x.fl 4) (rest := lay 0 4 ++ (lay x.ox 8 ++ (lay x.oid 8 ++ x.bs))) (n := x.rf) (k := 4) (o := 8) (by simp [lay_length]) h2.1 (by omega)
  have b3 := at_enc (pre := lay 1464812877 4 ++ lay x.fl 4 ++ lay x.rf 4) (rest := lay x.ox 8 ++ (lay x.oid 8 ++ x.bs)) (n := 0) (k := 4) (o := 12) (by simp [lay_length]) (by decide) (by decide)
  have b4 := at_enc (pre := lay 1464812877 4 ++ lay x.fl 4 ++ lay x.rf 4 ++ lay 0 4) (rest := lay x.oid 8 ++ x.bs) (n := x.ox) (k := 8) (o := 16) (by simp [lay_length]) h3.1 (by omega)
  have b5 := at_enc (pre := lay 1464812877 4 ++ lay x.fl 4 ++ lay x.rf 4 ++ lay 0 4 ++ lay x.ox 8) (rest := x.bs) (n := x.oid) (k := 8) (o := 24) (by simp [lay_length]) h4.1 (by omega)
  simp only [List.append_assoc, List.nil_append] at b0 b1 b2 b3 b4 b5
  rw [← e] at b0 b1 b2 b3 b4 b5
  refine ⟨?_, b0, b3⟩
  have b6 : ((encL x).drop 32).take 32 = x.bs := by
    rw [encL, List.drop_left' (encH_length x), List.take_of_length_le (by rw [hx.len]; omega)]
  unfold decX
  rw [b1, b2, b4, b5, b6]
theorem okD_iff {bs : List Int} (hl : 64 ≤ bs.length) (hr : ∀ b ∈ bs, 0 ≤ b ∧ b ≤ 255) : okD bs = (rightB (decX bs) && decide (encL (decX bs) = bs)) := by
  have hX := decX_in hl hr
  rw [Bool.eq_iff_iff]
  simp only [okD, Bool.and_eq_true, beq_iff_eq, decide_eq_true_eq]
  constructor
  · rintro ⟨⟨⟨h0, h3⟩, hlen⟩, hR⟩
    exact ⟨hR, encL_decX hlen hr h0 h3⟩
  · rintro ⟨hR, he⟩
    obtain ⟨_, b0, b3⟩ := decX_encL hX
    rw [he] at b0 b3
    have hlen := encL_length hX
    rw [he] at hlen
    exact ⟨⟨⟨b0, b3⟩, hlen⟩, hR⟩

/-! ### the document's calls -/
end Go.Proofs.Ytjjnbcdcppnllaa
