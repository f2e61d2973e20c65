/- Values: the document's form. No conditions. -/
import Derived.Test.YtmecgkeplkchcaaV3
set_option linter.unusedVariables false
set_option linter.unusedSimpArgs false
set_option linter.unusedSectionVars false
set_option maxRecDepth 100000
namespace Go.Proofs.Ytmecgkeplkchcaa
open Go.Sp Go.RowKit

def ndD (d : Int) (x : VT) : List VT := (pre d x).map (·.2)
theorem ndD_eq (d : Int) (x : VT) : ndD d x = x :: x.l.flatMap (ndD (dn d)) := by
  rw [ndD, pre_eq, List.map_cons]
  congr 1
  generalize x.l = l
  induction l with
  | nil => rfl
  | cons y l ih => rw [List.flatMap_cons, List.map_append, List.flatMap_cons, ih]; rfl
theorem formB_l {x : VT} (h : formB x = true) (k : x.kd ≠ 6) : x.l = [] := by
  unfold formB at h
  apply List.eq_nil_of_length_eq_zero
  split at h
  · simp at h; simp [h.2]
  · split at h
    · simp at h; simp [h.2]
    · split at h
      · simp at h; simp [h.2]
      · split at h
        · simp at h; simp [h.2]
        · split at h
          · simp at h; simp [h.2]
          · cases h
section
variable {w₀ : World}
theorem ref_Encode_ok (x : VT) : ∀ (d : Int) (bs : List Int) (p : Option Addr) (c : Nat) (F : HP) (w : World), (∀ q ∈ pre d x, chk1 q.1 q.2 = 0) → VIn x → VGives F x → Gives F 1 p bs.length (by8 bs) → bs.length + ((ndD d x).map wt1).sum ≤ 68719476736 → Sat w₀ F w →
    call Try.prog fn_tenonref06_Encode #[.slice p bs.length c, .agg (va x)] w fun v w' => ∃ q e, v = .slice q ((ndD d x).foldl form1 bs).length e ∧ Sat w₀ (own T_uint8 1 q ((ndD d x).foldl form1 bs).length e (by8 ((ndD d x).foldl form1 bs)) * F) w' := by
  induction x using VT.ind with
  | h x ih =>
    intro d bs p c F w hall hI hV hG hb h
    have hself := hall (d, x) (by rw [pre_eq]; exact .head _)
    obtain ⟨hd8, hfm, hss, hll⟩ := chk1_zero hself
    dsimp only at hd8 hfm hss hll
    have hk := formB_kd hfm
    have hbl : bs.length ≤ 68719476736 := by omega
    apply tenonref06_Encode_call
    unfold tenonref06_Encode
    refine new_ok h fun k1 w1 h1 => ?_
    have h1 : Sat w₀ (blk k1 (va x) 24 * F) w1 := h1
    refine ldI_ok (cell_blk h1 (i := 0) (v := .int .i64 x.kd) rfl) <| arith_u64 (by omega) (by omega) <| call_mono (tenonref05_Num_ok (n := x.kd) (size := 1) h1 (Gives.right hG) rfl (by omega) (by omega) (by omega)) ?_
    rintro _ w2 ⟨q, e, rfl, h2⟩
    obtain ⟨b1, hb1⟩ : ∃ b1, b1 = bs ++ form bs.length x.kd 1 := ⟨_, rfl⟩
    rw [← hb1] at h2 ⊢
    have hb1l : b1.length ≤ bs.length + 8 := by
      have := form_le bs.length x.kd 1 (by omega) (by omega)
      rw [hb1, List.length_append]
      omega
    have cx : ∀ {w : World} {X : HP} (i : Nat) {v : Value}, Sat w₀ (X * (blk k1 (va x) 24 * F)) w → (va x)[i]? = some v → w.cell? ((⟨k1, 0, none⟩ : Addr).add i) = some v := @fun _ _ i _ h e => cell_blk h.right e
    have leaf : x.kd ≠ 6 → ndD d x = [x] := fun k => by rw [ndD_eq, formB_l hfm k]; rfl
    -- a node without parts
    have fin : ∀ {w : World} {X : HP} {bs' : List Int} {q : Option Addr} {e : Nat}, x.kd ≠ 6 → Sat w₀ (own T_uint8 1 q bs'.length e (by8 bs') * (X * (blk k1 (va x) 24 * F))) w → form1 bs x = bs' →
        ∃ q' e', Value.slice q bs'.length e = .slice q' ((ndD d x).foldl form1 bs).length e' ∧ Sat w₀ (own T_uint8 1 q' ((ndD d x).foldl form1 bs).length e' (by8 ((ndD d x).foldl form1 bs)) * F) w := by
      rintro w X bs' q e k hw rfl
      rw [leaf k]
      exact ⟨q, e, rfl, (hw.perm (B := (X * blk k1 (va x) 24) * (own T_uint8 1 q (form1 bs x).length e (by8 (form1 bs x)) * F)) (by ac_rfl)).right⟩
    have gq : Gives (own T_uint8 1 q b1.length e (by8 b1) * (blk k1 (va x) 24 * F)) 1 q b1.length (by8 b1) := Gives.left Gives.own
    refine asS_ok <| ldI_ok (cx 0 h2 rfl) <| br_split (fun k1' => ?_) (fun k1' => br_split (fun k2 => ?_) (fun k2 => ?_))
    · have k1' : x.kd = 1 := by simpa using k1'
      have hn := formB_1 hfm k1'
      refine ldI_ok (cx 1 h2 rfl) <| arith_u64 (by omega) (by omega) <| call_mono (tenonref05_Num_ok (n := x.n) (size := 1) h2 gq rfl (by omega) (by omega) (by omega)) ?_
      rintro _ w3 ⟨q3, e3, rfl, h3⟩
      exact asS_ok (fin (by omega) h3 (by rw [form1, if_pos k1', ← hb1]))
    · have k1' : x.kd ≠ 1 := by simpa using k1'
      have k2 : x.kd = 2 := by simpa using k2
      refine ldI_ok (cx 1 h2 rfl) <| arith_un ⟨by decide, ?_⟩
      have em : (un x.n).tmod 4294967296 = x.n % 4294967296 := by
        rw [Int.tmod_eq_emod_of_nonneg (by unfold un; omega)]
        unfold un
        omega
      rw [em]
      refine call_mono (tenonref05_Num_ok (n := x.n % 4294967296) (size := 4) h2 gq rfl (by omega) (by omega) (by omega)) ?_
      rintro _ w3 ⟨q3, e3, rfl, h3⟩
      exact asS_ok (fin (by omega) h3 (by rw [form1, if_neg k1', if_pos k2, ← hb1]))
    have k1' : x.kd ≠ 1 := by simpa using k1'
    have k2 : x.kd ≠ 2 := by simpa using k2
    refine ⟨fun b w => (b = true ↔ x.kd = 3 ∨ x.kd = 5) ∧ w = w2, ?_, ?_⟩
    · refine br_split (fun h => ⟨?_, rfl⟩) (fun h => ⟨?_, rfl⟩)
      · simp at h ⊢; omega
      · simp at h ⊢; omega
    rintro u b w5 ⟨hb5, rfl⟩
    refine br_split (fun k3 => ?_) (fun k3 => ?_)
    · have k3 := hb5.1 k3
      refine ldI_ok (cx 1 h2 rfl) <| arith_un <| call_mono (tenonref05_Num_ok (n := un x.n) (size := 8) h2 gq rfl (by unfold un; omega) (by unfold un; omega) (by omega)) ?_
      rintro _ w3 ⟨q3, e3, rfl, h3⟩
      exact asS_ok (fin (by omega) h3 (by rw [form1, if_neg k1', if_neg k2, if_pos k3, ← hb1]))
    have k3 : ¬ (x.kd = 3 ∨ x.kd = 5) := fun h => by rw [hb5.2 h] at k3; cases k3
    refine br_split (fun k4 => ?_) (fun k4 => br_split (fun k6 => ?_) (fun k6 => ?_))
    · have k4 : x.kd = 4 := by simpa using k4
      refine ldT_ok (cx 2 h2 rfl) <| conv_str h2 fun ps cs w7 Gs h7 hgs => call_mono (tenonref05_Text_ok (m := x.s.size) h7 (Gives.right gq) (Gives.left hgs) (by omega) (by omega)) ?_
      rintro _ w8 ⟨q8, e8, rfl, h8⟩
      exact asS_ok (fin (X := Gs * own T_uint8 1 q b1.length e (by8 b1)) (by omega) (h8.perm (by ac_rfl)) (by rw [form1, if_neg k1', if_neg k2, if_neg k3, if_pos k4, ← hb1]))
    · have k4 : x.kd ≠ 4 := by simpa using k4
      have k6 : x.kd = 6 := by simpa using k6
      have e1 : form1 bs x = b1 ++ form b1.length x.l.length 4 := by rw [form1, if_neg k1', if_neg k2, if_neg k3, if_neg k4, if_pos k6, ← hb1]
      refine ldS_ok (cx 3 h2 rfl) <| arith_u64 (by omega) (by omega) <| call_mono (tenonref05_Num_ok (n := (x.l.length : Int)) (size := 4) h2 gq rfl (by omega) (by omega) (by omega)) ?_
      rintro _ w9 ⟨q9, e9, rfl, h9⟩
      rw [← e1] at h9 ⊢
      have h9 := (h9.perm (B := own T_uint8 1 q b1.length e (by8 b1) * (own T_uint8 1 q9 (form1 bs x).length e9 (by8 (form1 bs x)) * (blk k1 (va x) 24 * F))) (by ac_rfl)).right
      have end_ : (ndD d x).foldl form1 bs = (x.l.flatMap (ndD (dn d))).foldl form1 (form1 bs x) := by rw [ndD_eq]; rfl
      rw [end_]
      have hsum : (form1 bs x).length + ((x.l.flatMap (ndD (dn d))).map wt1).sum ≤ 68719476736 := by
        have := form1_len bs x
        rw [ndD_eq, List.map_cons, List.sum_cons] at hb
        omega
      refine asS_ok ⟨fun p34 l34 c34 n w m => ∃ bn, 0 ≤ n ∧ n ≤ x.l.length ∧ m = x.l.length - n.toNat ∧ bn = ((x.l.take n.toNat).flatMap (ndD (dn d))).foldl form1 (form1 bs x) ∧ l34 = bn.length ∧ Sat w₀ (own T_uint8 1 p34 bn.length c34 (by8 bn) * (blk k1 (va x) 24 * F)) w, ⟨_, _, by omega, by omega, rfl, rfl, rfl, h9⟩, ?_⟩
      rintro u p34 _ c34 n w10 m ⟨bn, n0, nl, rfl, hbn, rfl, h10⟩
      refine ldS_ok (cx 3 h10 rfl) <| br_dec (fun hlt => ?_) (fun hge => ?_)
      · have hi : n.toNat < x.l.length := by omega
        have hyi : x.l[n.toNat]? = some x.l[n.toNat] := by simp [hi]
        have hmem : x.l[n.toNat] ∈ x.l := List.getElem_mem hi
        have hrd := (hV _ _ h10.right.right).rd
        have e2 : (x.l.take (n.toNat + 1)).flatMap (ndD (dn d)) = (x.l.take n.toNat).flatMap (ndD (dn d)) ++ ndD (dn d) x.l[n.toNat] := by
          rw [List.take_add_one, hyi, List.flatMap_append]
          simp
        have hparts : ((x.l.take (n.toNat + 1)).flatMap (ndD (dn d))).map wt1 |>.sum |> (· ≤ ((x.l.flatMap (ndD (dn d))).map wt1).sum) := by
          show (((x.l.take (n.toNat + 1)).flatMap (ndD (dn d))).map wt1).sum ≤ ((x.l.flatMap (ndD (dn d))).map wt1).sum
          conv => rhs; rw [← List.take_append_drop (n.toNat + 1) x.l, List.flatMap_append, List.map_append, List.sum_append]
          omega
        have hbnl : bn.length ≤ (form1 bs x).length + (((x.l.take n.toNat).flatMap (ndD (dn d))).map wt1).sum := by
          rw [hbn]; exact foldl_len _ _
        have hparts' : (((x.l.take (n.toNat + 1)).flatMap (ndD (dn d))).map wt1).sum ≤ ((x.l.flatMap (ndD (dn d))).map wt1).sum := hparts
        rw [e2, List.map_append, List.sum_append] at hparts'
        refine ldS_ok (cx 3 h10 rfl) <| idx_ok hrd n0 (by omega) fun a ha => rd_vc hrd ha hyi <| call_mono (ih _ hmem (dn d) bn p34 c34 _ w10 (fun q hq => hall q ?_) (hI.part hmem) (VGives.right (VGives.right (hV.part hmem))) (Gives.left Gives.own) (by omega) h10) ?_
        · rw [pre_eq]
          exact .tail _ (List.mem_flatMap.2 ⟨_, hmem, hq⟩)
        · rintro _ w11 ⟨q11, e11, rfl, h11⟩
          refine asS_ok <| arith_i64 (by omega) (by have := hI.lens.2; omega) ⟨_, by omega, _, by omega, by omega, rfl, ?_, rfl, (h11.perm (B := own T_uint8 1 p34 bn.length c34 (by8 bn) * (own T_uint8 1 q11 ((ndD (dn d) x.l[n.toNat]).foldl form1 bn).length e11 (by8 ((ndD (dn d) x.l[n.toNat]).foldl form1 bn)) * (blk k1 (va x) 24 * F))) (by ac_rfl)).right⟩
          rw [show (n + 1).toNat = n.toNat + 1 by omega, e2, List.foldl_append, ← hbn]
      · rw [List.take_of_length_le (by omega)] at hbn
        subst hbn
        exact ⟨_, _, rfl, (h10.perm (B := blk k1 (va x) 24 * (own T_uint8 1 p34 _ c34 _ * F)) (by ac_rfl)).right⟩
    · have k4 : x.kd ≠ 4 := by simpa using k4
      have k6 : x.kd ≠ 6 := by simpa using k6
      exact fin (X := emp) k6 (h2.with_emp.perm (by ac_rfl)) (by rw [form1, if_neg k1', if_neg k2, if_neg k3, if_neg k4, if_neg k6, ← hb1])
end
end Go.Proofs.Ytmecgkeplkchcaa
