/- VariantWalks: the walk. No conditions. -/
import Derived.Test.YtmecgkeplkchcaaV17
import Derived.Test.YtmecgkeplkchcaaSpC
set_option linter.unusedVariables false
set_option linter.unusedSimpArgs false
set_option linter.unusedSectionVars false
set_option maxRecDepth 100000
namespace Go.Proofs.Ytmecgkeplkchcaa
open Go.Sp Go.RowKit

theorem u64sTy : SliceTy Try.prog T_sl_uint64 T_uint64 (.int .u64 0) 1 8 := ⟨by kernel_rfl, by kernel_rfl, rfl, by decide⟩
theorem flatU64 (xs : List Int) : xs.flatMap fU64 = xs.map fun x => Value.int .u64 x := by
  induction xs with
  | nil => rfl
  | cons x xs ih => simp [fU64, ih]
theorem SameLongs_ok {w : World} {p q : Option Addr} {l c m d : Nat} {xs ys : List Int} (hx : Rd w 1 p l (xs.flatMap fU64)) (hy : Rd w 1 q m (ys.flatMap fU64)) (hl : l ≤ 4611686018427387904) :
    Reads Try.prog fn_tenonref01_SameLongs #[.slice p l c, .slice q m d] w (.bool (decide (xs = ys))) := by
  apply tenonref01_SameLongs_call
  unfold tenonref01_SameLongs
  have el : xs.length = l := by have := hx.1; rw [flatU64, List.length_map] at this; omega
  have em : ys.length = m := by have := hy.1; rw [flatU64, List.length_map] at this; omega
  refine br_split (fun hne => ?_) (fun heq => ?_)
  · refine ⟨?_, Same.refl w⟩
    rw [decide_eq_false]
    intro e
    subst e
    simp [← el, em] at hne
  · have hlm' : (l : Int) = m := by simpa using heq
    have hlm : l = m := by omega
    refine ⟨fun n w' k => 0 ≤ n ∧ n ≤ l ∧ k = l - n.toNat ∧ xs.take n.toNat = ys.take n.toNat ∧ Same w w', ⟨_, by omega, by omega, rfl, by simp, Same.refl w⟩, ?_⟩
    rintro u n w1 k ⟨h0, h1, rfl, he, hw⟩
    refine br_dec (fun hlt => ?_) (fun hge => ?_)
    · have hi : n.toNat < xs.length := by omega
      have hj : n.toNat < ys.length := by omega
      have hxi : (xs.flatMap fU64)[n.toNat]? = some (.int .u64 xs[n.toNat]) := by rw [flatU64]; simp [hi]
      have hyi : (ys.flatMap fU64)[n.toNat]? = some (.int .u64 ys[n.toNat]) := by rw [flatU64]; simp [hj]
      refine idx_ok hx h0 (by omega) fun a ha => ldI_ok (n := xs[n.toNat]) ?_ <| idx_ok hy h0 (by omega) fun b hb => ldI_ok (n := ys[n.toNat]) ?_ <| br_split (fun hne => ?_) (fun heq => ?_)
      · rw [hw.drew.cell, Nat.mul_one]; exact hx.get ha hxi
      · rw [hw.drew.cell, Nat.mul_one]; exact hy.get hb hyi
      · refine ⟨?_, hw.drew⟩
        rw [decide_eq_false]
        intro e
        subst e
        simp at hne
      · have heq : xs[n.toNat] = ys[n.toNat] := by simpa using heq
        refine arith_i64 (by omega) (by omega) ⟨_, by omega, by omega, by omega, rfl, ?_, hw.drew⟩
        rw [show (n + 1).toNat = n.toNat + 1 by omega, List.take_add_one, List.take_add_one, he]
        simp [hi, hj, heq]
    · refine ⟨?_, hw⟩
      rw [List.take_of_length_le (by omega), List.take_of_length_le (by omega)] at he
      rw [he]
      simp

/-! ### a value, and how deep it is -/
def dq (q : Int × VT) : List Value := .int .i64 q.1 :: vc q.2
theorem dq_len (q : Int × VT) : (dq q).length = 5 := rfl
theorem dq_one (q : Int × VT) : ∀ u ∈ dq q, u.oneCell' = true := by simp [dq, vc, Value.oneCell']
theorem dq_arr (q : Int × VT) : (#[] ++ #[.int .i64 q.1]) ++ va q.2 = (dq q).toArray := by simp [dq, va]
theorem deepTy : SliceTy Try.prog T_sl_tenonref06_Deep T_tenonref06_Deep (.agg (dq (0, v0)).toArray) 5 64 := ⟨by kernel_rfl, by kernel_rfl, rfl, by decide⟩
theorem pre_len (x : VT) (d : Int) : (pre d x).length ≤ tw x := by
  have h : ∀ l : List VT, l.length ≤ (l.map wt1).sum := by
    intro l
    induction l with
    | nil => simp
    | cons y l ih => rw [List.map_cons, List.sum_cons, List.length_cons]; have : 24 ≤ wt1 y := by unfold wt1; omega
                     omega
  have h1 := h (ndD d x)
  rw [ndD_any x d 0] at h1
  have h2 : (ndD 0 x).length = (pre d x).length := by rw [ndD_any x 0 d, ndD, List.length_map]
  show (pre d x).length ≤ ((ndD 0 x).map wt1).sum
  omega
section
variable {w₀ : World}
theorem ref_Walk_ok (x : VT) : ∀ (d : Int) (F : HP) (w : World), VIn x → VGives F x → tw x ≤ 68719476736 → Sat w₀ F w →
    call Try.prog fn_tenonref06_Walk #[.agg (va x), .int .i64 d] w fun v w' => ∃ p c, v = .slice p (pre d x).length c ∧ Sat w₀ (tab T_tenonref06_Deep 5 dq p (pre d x).length c (pre d x) * F) w' := by
  induction x using VT.ind with
  | h x ih =>
    intro d F w hI hV hT h
    apply tenonref06_Walk_call
    unfold tenonref06_Walk
    have hlens := hI.lens
    refine new_ok h fun k1 w1 h1 => ?_
    have h1 : Sat w₀ (blk k1 (va x) 24 * F) w1 := h1
    have c3 : ∀ {w} {A : HP}, Sat w₀ (A * (blk k1 (va x) 24 * F)) w → w.cell? ((⟨k1, 0, none⟩ : Addr).add 3) = some (.slice x.p x.l.length x.c) := fun h => cell_blk h.right (i := 3) rfl
    refine ldV4 h1 ⟨rfl, rfl, new_ok h1 fun k3 w2 h2 => ?_⟩
    rw [dq_arr (d, x)] at h2
    have h2 := h2.own_full (t := T_tenonref06_Deep) (sz := 5) (n := 1) rfl (by decide)
    refine ⟨fun p l c n w m => 0 ≤ n ∧ n ≤ x.l.length ∧ m = x.l.length - n.toNat ∧ l = ((d, x) :: (x.l.take n.toNat).flatMap (pre (dn d))).length ∧ Sat w₀ (tab T_tenonref06_Deep 5 dq p l c ((d, x) :: (x.l.take n.toNat).flatMap (pre (dn d))) * (blk k1 (va x) 24 * F)) w, ⟨_, by omega, by omega, rfl, rfl, ?_⟩, ?_⟩
    · rw [tab]
      simpa using h2
    rintro u p l c n w3 m ⟨n0, nl, rfl, rfl, h3⟩
    refine ldS_ok (c3 h3) <| br_dec (fun hlt => ?_) (fun hge => ?_)
    · have hi : n.toNat < x.l.length := by omega
      have hyi : x.l[n.toNat]? = some x.l[n.toNat] := by simp [hi]
      have hrd := (hV _ _ h3.right.right).rd
      have hmem : x.l[n.toNat] ∈ x.l := List.getElem_mem hi
      have htw := tw_eq x
      have e3 : x.l = x.l.take n.toNat ++ x.l[n.toNat] :: x.l.drop (n.toNat + 1) := by
        conv => lhs; rw [← List.take_append_drop n.toNat x.l, List.drop_eq_getElem_cons hi]
      have hsum : (x.l.map tw).sum = ((x.l.take n.toNat).map tw).sum + (tw x.l[n.toNat] + ((x.l.drop (n.toNat + 1)).map tw).sum) := by
        conv => lhs; rw [e3]
        rw [List.map_append, List.sum_append, List.map_cons, List.sum_cons]
      have hfl : ((x.l.take n.toNat).flatMap (pre (dn d))).length ≤ ((x.l.take n.toNat).map tw).sum := by
        generalize x.l.take n.toNat = l
        induction l with
        | nil => simp
        | cons y l ih2 =>
          rw [List.flatMap_cons, List.length_append, List.map_cons, List.sum_cons]
          have := pre_len y (dn d)
          omega
      have hw1 : 24 ≤ wt1 x := by unfold wt1; omega
      refine ldS_ok (c3 h3) <| idx_ok hrd n0 (by omega) fun a ha => rd_vc hrd ha hyi <| arith_raw <| call_mono (ih _ hmem (dn d) _ w3 (hI.part hmem) (VGives.right (VGives.right (hV.part hmem))) (by omega) h3) ?_
      rintro _ w4 ⟨q, e, rfl, h4⟩
      have hpl := pre_len x.l[n.toNat] (dn d)
      have hR : Rd w4 5 q (pre (dn d) x.l[n.toNat]).length ((pre (dn d) x.l[n.toNat]).flatMap dq) := Sat.rd (t := T_tenonref06_Deep) (c := e) (show Sat w₀ (own T_tenonref06_Deep 5 q _ e _) w4 from h4.left)
      refine asS_ok <| tab_more deepTy dq_len dq_one (h4.perm (B := tab T_tenonref06_Deep 5 dq p ((d, x) :: (x.l.take n.toNat).flatMap (pre (dn d))).length c ((d, x) :: (x.l.take n.toNat).flatMap (pre (dn d))) * ((blk k1 (va x) 24 * F) * tab T_tenonref06_Deep 5 dq q (pre (dn d) x.l[n.toNat]).length e (pre (dn d) x.l[n.toNat]))) (by ac_rfl)) hR (by simp only [maxLen, List.length_cons]; omega) (by simp only [List.length_cons]; omega) fun p' c' w5 h5 => ?_
      have e1 : (d, x) :: (x.l.take (n.toNat + 1)).flatMap (pre (dn d)) = (d, x) :: (x.l.take n.toNat).flatMap (pre (dn d)) ++ pre (dn d) x.l[n.toNat] := by
        rw [List.take_add_one, hyi, List.flatMap_append]
        simp
      refine arith_i64 (by omega) (by omega) ⟨_, by omega, by omega, by omega, rfl, ?_, ?_⟩
      · rw [show (n + 1).toNat = n.toNat + 1 by omega, e1, List.length_append]
      · rw [show (n + 1).toNat = n.toNat + 1 by omega, e1]
        exact (h5.perm (B := tab T_tenonref06_Deep 5 dq q (pre (dn d) x.l[n.toNat]).length e (pre (dn d) x.l[n.toNat]) * (tab T_tenonref06_Deep 5 dq p' (((d, x) :: (x.l.take n.toNat).flatMap (pre (dn d))).length + (pre (dn d) x.l[n.toNat]).length) c' ((d, x) :: (x.l.take n.toNat).flatMap (pre (dn d)) ++ pre (dn d) x.l[n.toNat]) * (blk k1 (va x) 24 * F))) (by ac_rfl)).right
    · rw [List.take_of_length_le (by omega), ← pre_eq] at h3 ⊢
      exact ⟨p, c, rfl, (h3.perm (B := blk k1 (va x) 24 * (tab T_tenonref06_Deep 5 dq p (pre d x).length c (pre d x) * F)) (by ac_rfl)).right⟩

/-! ### what a walk tells -/
def HW (k2 k3 : Nat) (most : Int) (ps : List (Int × VT)) (Q : HP) (j : Nat) : HP := ex fun p => ex fun c =>
  prop ((j : Int) ≤ max most 0) * (blk k2 #[.int .i64 most] 3 * (blk k3 #[.slice p j c] 43 * (tab T_tenonref06_Deep 5 dq p j c (ps.take j) * Q)))
section
variable {w : World} {k2 k3 : Nat} {most : Int} {ps : List (Int × VT)} {Q F : HP} {j : Nat}
theorem HW.open_ (h : Sat w₀ (HW k2 k3 most ps Q j * F) w) : (j : Int) ≤ max most 0 ∧ ∃ p c, Sat w₀ (blk k2 #[.int .i64 most] 3 * (blk k3 #[.slice p j c] 43 * (tab T_tenonref06_Deep 5 dq p j c (ps.take j) * (Q * F)))) w := by
  obtain ⟨p, h⟩ := Sat.ex h
  obtain ⟨c, h⟩ := Sat.ex h
  have h := h.perm (B := prop ((j : Int) ≤ max most 0) * (blk k2 #[.int .i64 most] 3 * (blk k3 #[.slice p j c] 43 * (tab T_tenonref06_Deep 5 dq p j c (ps.take j) * (Q * F))))) (by ac_rfl)
  exact ⟨h.prop, p, c, h.right⟩
theorem HW.shut {p : Option Addr} {c : Nat} (hj : (j : Int) ≤ max most 0) (h : Sat w₀ (blk k2 #[.int .i64 most] 3 * (blk k3 #[.slice p j c] 43 * (tab T_tenonref06_Deep 5 dq p j c (ps.take j) * (Q * F)))) w) :
    Sat w₀ (HW k2 k3 most ps Q j * F) w :=
  Sat.to_ex p (Sat.to_ex c ((h.add_prop hj).perm (by ac_rfl)))
end
theorem walked_ok {x : VT} {most : Int} {F : HP} {w : World} (h : Sat w₀ F w) (hI : VIn x) (hV : VGives F x) (hT : tw x ≤ 68719476736) :
    call Try.prog fn_tenonlaw06_walked #[.agg (va x), .int .i64 most] w fun v w' => ∃ p m c, v = .slice p m c ∧ m = min (pre 0 x).length most.toNat ∧ Sat w₀ (tab T_tenonref06_Deep 5 dq p m c ((pre 0 x).take m) * F) w' := by
  apply tenonlaw06_walked_call
  unfold tenonlaw06_walked
  have hn := pre_len x 0
  refine new_ok h fun k1 w1 h1 => new_ok h1 fun k2 w2 h2 => new_ok h2 fun k3 w3 h3 => ldV4 h3.right.right <| call_mono (variant_Walk_ok h3) ?_
  rintro _ w4 ⟨k, rfl, h4⟩
  let Q : HP := blk k (va x) 24 * (blk k1 (va x) 24 * F)
  let ps := pre 0 x
  have fin : ∀ {j D w}, Sat w₀ (markH D * HW k2 k3 most ps Q j) w → j = min ps.length most.toNat →
      ldS (⟨k3, 0, none⟩ : Addr) w fun p21 l21 c21 => shutD D w fun w13 =>
        (fun v w' => ∃ p m c, v = Value.slice p m c ∧ m = min (pre 0 x).length most.toNat ∧ Sat w₀ (tab T_tenonref06_Deep 5 dq p m c ((pre 0 x).take m) * F) w') (Value.slice p21 l21 c21) w13 := by
    intro j D w h5 hj
    obtain ⟨hjm, p, c, h6⟩ := HW.open_ (h5.e1)
    refine ldS_ok (h6.right.left.cell (i := 0) rfl) ?_
    have h7 := h6.perm (B := markH D * ((blk k2 #[.int .i64 most] 3 * (blk k3 #[.slice p j c] 43 * (blk k (va x) 24 * blk k1 (va x) 24))) * (tab T_tenonref06_Deep 5 dq p j c (ps.take j) * F))) (by simp only [Q]; ac_rfl)
    exact shutD_ok h7 fun w' h8 => ⟨p, j, c, rfl, hj, h8.right⟩
  have hA0 : Sat w₀ (HW k2 k3 most ps Q 0 * emp) w4 :=
    HW.shut (p := none) (c := 0) (by simp; omega) ((tab_nil T_tenonref06_Deep 5 dq (h4.with_emp)).perm (by
      simp only [List.take_zero, Q]
      show tab T_tenonref06_Deep 5 dq none 0 0 [] * (emp * (blk k (va x) 24 * (blk k3 _ 43 * (blk k2 _ 3 * (blk k1 (va x) 24 * F))))) = _
      ac_rfl))
  have hvA : ∀ j w, Sat w₀ (HW k2 k3 most ps Q j) w → VOk w x := fun j w h => by
    obtain ⟨_, p, c, h⟩ := HW.open_ (h.with_emp.e1)
    exact hV _ _ h.right.right.right.left.right.right
  refine asF_ok ⟨w₀, fn_variant_Walk_1, _, ps.map encD, HW k2 k3 most ps Q, fun c => ex fun j => prop (c = .exit 0 ∧ j = min ps.length most.toNat) * HW k2 k3 most ps Q j,
    rfl, ⟨_, _, Try.func40, rfl⟩, hA0.left, ?_, Walk_iter (fun w h => ?_) hvA hI, ?_, ?_, ?_⟩
  · intro z hz
    obtain ⟨y, _, rfl⟩ := List.mem_map.1 hz
    rfl
  · obtain ⟨_, p, c, h⟩ := HW.open_ (h.with_emp.e1)
    exact h.right.right.right.left.left
  · intro j z hz G G' T w5 hT' h5
    rw [List.getElem?_map] at hz
    obtain ⟨y, hy, rfl⟩ := Option.map_eq_some_iff.1 hz
    have hlt := (List.getElem?_eq_some_iff.1 hy).1
    have hlt' : j < (pre 0 x).length := hlt
    refine ⟨_, _, rfl, new_ok h5 fun k12 w6 h6 => stA_ok h6 rfl rfl (va_one _) fun w7 h7 => hT' (blk k12 (va y.2) 24 * HW k2 k3 most ps Q j) _ _ (h7.perm (by
      show blk k12 _ 24 * _ = _
      ac_rfl)) fun w8 h8 => ?_⟩
    obtain ⟨hjm, p, c, h6⟩ := HW.open_ (h8.perm (B := HW k2 k3 most ps Q j * (blk k12 (va y.2) 24 * G')) (by ac_rfl))
    refine ldS_ok (h6.right.left.cell (i := 0) rfl) <| ldI_ok (h6.left.cell (i := 0) rfl) <| br_dec (fun hge => ?_) (fun hlt2 => ?_)
    · have hj : j = min ps.length most.toNat := by omega
      exact Sat.to_ex j ((((HW.shut hjm h6).add_prop (p := Code.exit 0 = Code.exit 0 ∧ j = min ps.length most.toNat) ⟨rfl, hj⟩).perm (B := blk k12 (va y.2) 24 * ((prop (Code.exit 0 = Code.exit 0 ∧ j = min ps.length most.toNat) * HW k2 k3 most ps Q j) * G')) (by ac_rfl)).right)
    · have e2 : ps.take (j + 1) = ps.take j ++ [y] := by rw [List.take_add_one, hy]; rfl
      have h9 := h6.perm (B := blk k12 (va y.2) 24 * (blk k2 #[.int .i64 most] 3 * (blk k3 #[.slice p j c] 43 * (tab T_tenonref06_Deep 5 dq p j c (ps.take j) * (Q * G'))))) (by ac_rfl)
      refine ldS_ok (h6.right.left.cell (i := 0) rfl) <| ldV4 h9 ⟨rfl, rfl, new_ok h9 fun k18 w9 h10 => ?_⟩
      refine tab_app deepTy dq_len (by decide) dq_one (x := y) (h10.perm (B := blk k18 ((#[] ++ #[.int .i64 y.1]) ++ va y.2) 48 * (tab T_tenonref06_Deep 5 dq p j c (ps.take j) * (blk k3 #[.slice p j c] 43 * (blk k2 #[.int .i64 most] 3 * (blk k12 (va y.2) 24 * (Q * G')))))) (by ac_rfl)) (dq_arr y) (by simp only [maxLen]; omega) (by omega) fun p' c' w10 h11 => ?_
      refine st_ok (i := 0) h11.p1 (by simp) fun w11 h12 => ?_
      refine HW.shut (p := p') (c := c') (by omega) ((h12.perm (B := blk k12 (va y.2) 24 * (blk k2 #[.int .i64 most] 3 * (blk k3 #[.slice p' (j + 1) c'] 43 * (tab T_tenonref06_Deep 5 dq p' (j + 1) c' (ps.take j ++ [y]) * (Q * G'))))) (by
        show blk k3 #[.slice p' (j + 1) c'] 43 * _ = _
        ac_rfl)).right.perm ?_)
      rw [e2]
  · intro D w5 h5
    rw [List.length_map] at h5
    obtain ⟨hjm, _⟩ := HW.open_ (h5.e1)
    exact fin h5 (by omega)
  · intro D c w5 h5
    have h5 := h5.e1
    obtain ⟨j, h5⟩ := Sat.ex h5
    obtain ⟨rfl, hj⟩ := (h5.perm (B := prop (c = .exit 0 ∧ j = min ps.length most.toNat) * (HW k2 k3 most ps Q j * markH D)) (by ac_rfl)).prop
    have h6 : Sat w₀ (markH D * HW k2 k3 most ps Q j) w5 := (h5.perm (B := prop (Code.exit 0 = .exit 0 ∧ j = min ps.length most.toNat) * (markH D * HW k2 k3 most ps Q j)) (by ac_rfl)).right
    exact jmp_exit (fin h6 hj)

/-! ### references -/
def refsOf (l : List (Int × VT)) : List Int := l.filterMap fun q => if q.2.kd = 5 then some (un q.2.n) else none
theorem refsOf_snoc (l : List (Int × VT)) (q : Int × VT) : refsOf (l ++ [q]) = refsOf l ++ if q.2.kd = 5 then [un q.2.n] else [] := by
  rw [refsOf, List.filterMap_append]
  by_cases h : q.2.kd = 5 <;> simp [h, refsOf]
theorem refsOf_len (l : List (Int × VT)) : (refsOf l).length ≤ l.length := List.length_filterMap_le _ _
theorem variant_Refs_ok {x : VT} {F : HP} {w : World} (h : Sat w₀ F w) (hI : VIn x) (hV : VGives F x) (hT : tw x ≤ 68719476736) :
    call Try.prog fn_variant_Refs #[.agg (va x)] w fun v w' => ∃ p c, v = .slice p (refsOf (pre 0 x)).length c ∧ Sat w₀ (tab T_uint64 1 fU64 p (refsOf (pre 0 x)).length c (refsOf (pre 0 x)) * F) w' := by
  apply variant_Refs_call
  unfold variant_Refs
  have hn := pre_len x 0
  refine new_ok h fun k1 w1 h1 => new_ok h1 fun k2 w2 h2 => ldV4 h2.right <| call_mono (variant_Walk_ok h2) ?_
  rintro _ w3 ⟨k, rfl, h3⟩
  let ps := pre 0 x
  let Q : HP := blk k (va x) 24 * (blk k1 (va x) 24 * F)
  let A : Nat → HP := fun j => ex fun p => ex fun c => blk k2 #[.slice p (refsOf (ps.take j)).length c] 46 * (tab T_uint64 1 fU64 p (refsOf (ps.take j)).length c (refsOf (ps.take j)) * Q)
  have opn : ∀ {j : Nat} {X : HP} {w : World}, Sat w₀ (A j * X) w → ∃ p c, Sat w₀ (blk k2 #[.slice p (refsOf (ps.take j)).length c] 46 * (tab T_uint64 1 fU64 p (refsOf (ps.take j)).length c (refsOf (ps.take j)) * (Q * X))) w := by
    intro j X w h
    obtain ⟨p, h⟩ := Sat.ex h
    obtain ⟨c, h⟩ := Sat.ex h
    exact ⟨p, c, h.perm (by ac_rfl)⟩
  have sht : ∀ {j : Nat} {X : HP} {w : World} {p : Option Addr} {c : Nat}, Sat w₀ (blk k2 #[.slice p (refsOf (ps.take j)).length c] 46 * (tab T_uint64 1 fU64 p (refsOf (ps.take j)).length c (refsOf (ps.take j)) * (Q * X))) w → Sat w₀ (A j * X) w := fun {_ _ _ p c} h => Sat.to_ex p (Sat.to_ex c (h.perm (by ac_rfl)))
  have hvA : ∀ j w, Sat w₀ (A j) w → VOk w x := fun j w h => by
    obtain ⟨p, c, h⟩ := opn h.with_emp.e1
    exact hV _ _ h.right.right.left.right.right
  have hA0 : Sat w₀ (A 0 * emp) w3 := sht (p := none) (c := 0) ((tab_nil T_uint64 1 fU64 (h3.with_emp)).perm (by
    simp only [List.take_zero, Q]
    show tab T_uint64 1 fU64 none 0 0 [] * (emp * (blk k (va x) 24 * (blk k2 #[.slice none 0 0] 46 * (blk k1 (va x) 24 * F)))) = blk k2 #[.slice none 0 0] 46 * (tab T_uint64 1 fU64 none 0 0 [] * _)
    ac_rfl))
  refine asF_ok ⟨w₀, fn_variant_Walk_1, _, ps.map encD, A, fun _ => prop False,
    rfl, ⟨_, _, Try.func40, rfl⟩, hA0.left, ?_, Walk_iter (fun w h => ?_) hvA hI, ?_, ?_, ?_⟩
  · intro z hz
    obtain ⟨y, _, rfl⟩ := List.mem_map.1 hz
    rfl
  · obtain ⟨p, c, h⟩ := opn h.with_emp.e1
    exact h.right.right.left.left
  · intro j z hz G G' T w5 hT' h5
    rw [List.getElem?_map] at hz
    obtain ⟨y, hy, rfl⟩ := Option.map_eq_some_iff.1 hz
    have hlt' : j < (pre 0 x).length := (List.getElem?_eq_some_iff.1 hy).1
    have e2 : refsOf (ps.take (j + 1)) = refsOf (ps.take j) ++ if y.2.kd = 5 then [un y.2.n] else [] := by rw [List.take_add_one, hy]; exact refsOf_snoc _ _
    have hrl : (refsOf (ps.take j)).length ≤ j := Nat.le_trans (refsOf_len _) (by rw [List.length_take]; omega)
    refine ⟨_, _, rfl, new_ok h5 fun k12 w6 h6 => stA_ok h6 rfl rfl (va_one _) fun w7 h7 => hT' (blk k12 (va y.2) 24 * A j) _ _ (h7.perm (by
      show blk k12 _ 24 * _ = _
      ac_rfl)) fun w8 h8 => ?_⟩
    have h8 : Sat w₀ (blk k12 (va y.2) 24 * (A j * G')) w8 := h8.perm (by ac_rfl)
    refine ldI_ok (n := y.2.kd) (cell_blk h8 (i := 0) rfl) <| br_split (fun k5 => ?_) (fun k5 => ?_)
    · have k5 : y.2.kd = 5 := by simpa using k5
      rw [if_pos k5] at e2
      obtain ⟨p, c, h9⟩ := opn (h8.perm (B := A j * (blk k12 (va y.2) 24 * G')) (by ac_rfl))
      refine ldS_ok (h9.left.cell (i := 0) rfl) <| ldI_ok (n := y.2.n) (cell_blk h8 (i := 1) rfl) <| arith_un <| new_ok h9 fun k17 w9 h10 => ?_
      refine tab_app u64sTy fU64_len (by decide) fU64_one (x := un y.2.n) (h10.perm (B := blk k17 #[.int .u64 (un y.2.n)] 49 * (tab T_uint64 1 fU64 p (refsOf (ps.take j)).length c (refsOf (ps.take j)) * (blk k2 #[.slice p (refsOf (ps.take j)).length c] 46 * (Q * (blk k12 (va y.2) 24 * G'))))) (by ac_rfl)) rfl (by simp only [maxLen]; omega) (by omega) fun p' c' w10 h11 => ?_
      refine st_ok (i := 0) h11.p1 (by simp) fun w11 h12 => ?_
      refine ((sht (j := j + 1) (X := blk k12 (va y.2) 24 * G') (p := p') (c := c') ?_).perm (B := blk k12 (va y.2) 24 * (A (j + 1) * G')) (by ac_rfl)).right
      rw [e2, List.length_append]
      exact h12
    · have k5 : y.2.kd ≠ 5 := by simpa using k5
      rw [if_neg k5, List.append_nil] at e2
      have : A (j + 1) = A j := by simp only [A]; rw [e2]
      rw [this]
      exact h8.right
  · intro D w5 h5
    rw [List.length_map] at h5
    obtain ⟨p, c, h6⟩ := opn h5.e1
    rw [List.take_length] at h6
    refine ldS_ok (h6.left.cell (i := 0) rfl) <| shutD_ok (h6.perm (B := markH D * ((blk k2 #[.slice p (refsOf ps).length c] 46 * (blk k (va x) 24 * blk k1 (va x) 24)) * (tab T_uint64 1 fU64 p (refsOf ps).length c (refsOf ps) * F))) (by simp only [Q]; ac_rfl)) fun w7 h8 => ⟨p, c, rfl, h8.right⟩
  · intro D c w5 h5
    exact ((h5.perm (B := prop False * markH D) (by first | ac_rfl | (dsimp only; ac_rfl))).prop).elim
end
end Go.Proofs.Ytmecgkeplkchcaa
