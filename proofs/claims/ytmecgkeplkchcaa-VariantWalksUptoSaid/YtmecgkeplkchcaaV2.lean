/- Values: going over all in one; the checks. No conditions. -/
import Derived.Test.YtmecgkeplkchcaaV1
set_option linter.unusedVariables false
set_option linter.unusedSimpArgs false
set_option linter.unusedSectionVars false
set_option maxRecDepth 100000
namespace Go.Proofs.Ytmecgkeplkchcaa
open Go.Sp Go.RowKit

theorem arith_raw {k : IntKind} {e : Int} {K : Int → Prop} (h : K (IntKind.wrap k e)) : arith k e K := h
section
variable {w₀ w : World} {F : HP} {x : VT}
theorem variant_right_ok (h : Sat w₀ F w) : call Try.prog fn_variant_right #[.agg (va x)] w fun v w' => v = .bool (formB x) ∧ Sat w₀ F w' := by
  apply variant_right_call
  unfold variant_right
  refine new_ok h fun k1 w1 h1 => ?_
  have h1 : Sat w₀ (blk k1 (va x) 24 * F) w1 := h1
  have c0 := cell_blk h1 (i := 0) (v := .int .i64 x.kd) rfl
  have c1 := cell_blk h1 (i := 1) (v := .int .i64 x.n) rfl
  have c2 := cell_blk h1 (i := 2) (v := .string x.s) rfl
  have c3 := cell_blk h1 (i := 3) (v := .slice x.p x.l.length x.c) rfl
  have fin : ∀ {b : Bool}, b = formB x → Value.bool b = .bool (formB x) ∧ Sat w₀ F w1 := fun e => ⟨by rw [e], h1.right⟩
  have lz : ((x.l.length : Int) != 0) = !decide (x.l.length = 0) := by rw [Bool.eq_iff_iff]; simp
  refine ⟨fun b w => (b = true ↔ (1 ≤ x.kd ∧ x.kd ≤ 3) ∨ x.kd = 5) ∧ w = w1, ?_, ?_⟩
  · refine ldI_ok c0 <| br_dec (fun a => ldI_ok c0 <| br_dec (fun b => ⟨by simp; omega, rfl⟩) (fun b => ldI_ok c0 ⟨by simp; omega, rfl⟩)) (fun a => ldI_ok c0 ⟨by simp; omega, rfl⟩)
  rintro u b8 w2 ⟨hb8, rfl⟩
  refine ⟨fun b w => (b = true ↔ x.kd < 0 ∨ x.kd > 6) ∧ w = w2, ?_, ?_⟩
  · refine ldI_ok c0 <| br_dec (fun a => ⟨by simp [a], rfl⟩) (fun a => ldI_ok c0 ⟨by simp; omega, rfl⟩)
  rintro u b13 w3 ⟨hb13, rfl⟩
  refine br_split (fun hout => fin ?_) (fun hin => ?_)
  · have := hb13.1 hout
    rw [formB, if_neg (by omega), if_neg (by omega), if_neg (by omega), if_neg (by omega), if_neg (by omega), if_neg (by omega)]
  have hin : ¬ (x.kd < 0 ∨ x.kd > 6) := fun h => by rw [hb13.2 h] at hin; cases hin
  -- something that the kind does not ask for
  refine ⟨fun b w => (b = true ↔ (b8 = false ∧ x.n ≠ 0) ∨ (x.kd ≠ 4 ∧ noS x.s = false) ∨ (x.kd ≠ 6 ∧ x.l.length ≠ 0)) ∧ w = w3, ?_, ?_⟩
  · refine ⟨fun b w => (b = true ↔ b8 = false ∧ x.n ≠ 0) ∧ w = w3, ?_, ?_⟩
    · refine br_split (fun a => ldI_ok c1 ⟨?_, rfl⟩) (fun a => ⟨?_, rfl⟩)
      · simp at a; simp [a]
      · simp at a; simp [a]
    rintro u b18 w4 ⟨hb18, rfl⟩
    refine br_split (fun a => ⟨by rw [a]; simp only [true_iff]; exact .inl (hb18.1 a), rfl⟩) (fun a => ?_)
    have a : ¬ (b8 = false ∧ x.n ≠ 0) := fun h => by rw [hb18.2 h] at a; cases a
    have l6 : ∀ {K : Prop}, (((x.l.length : Int) != 0) = true ↔ x.l.length ≠ 0) := by intro K; rw [lz]; simp
    refine ldI_ok c0 <| br_split (fun k4 => ldT_ok c2 <| br_split (fun s0 => ⟨?_, rfl⟩) (fun s0 => ldI_ok c0 <| br_split (fun k6 => ldS_ok c3 ⟨?_, rfl⟩) (fun k6 => ⟨?_, rfl⟩))) (fun k4 => ldI_ok c0 <| br_split (fun k6 => ldS_ok c3 ⟨?_, rfl⟩) (fun k6 => ⟨?_, rfl⟩))
    · have s0' : noS x.s = false := by have : (!noS x.s) = true := s0; simpa using this
      have k4 : x.kd ≠ 4 := by simpa using k4
      rw [s0]
      simp only [true_iff]
      exact .inr (.inl ⟨k4, s0'⟩)
    · have s0' : noS x.s = true := by have : (!noS x.s) = false := s0; simpa using this
      have k6 : x.kd ≠ 6 := by simpa using k6
      rw [l6 (K := True)]
      constructor
      · exact fun h => .inr (.inr ⟨k6, h⟩)
      · rintro (h | h | h)
        · exact absurd h a
        · rw [s0'] at h; cases h.2
        · exact h.2
    · have s0' : noS x.s = true := by have : (!noS x.s) = false := s0; simpa using this
      have k6 : x.kd = 6 := by simpa using k6
      simp only [Bool.false_eq_true, false_iff]
      rintro (h | h | h)
      · exact a h
      · rw [s0'] at h; cases h.2
      · exact h.1 k6
    · have k4 : x.kd = 4 := by simpa using k4
      have k6 : x.kd ≠ 6 := by simpa using k6
      rw [l6 (K := True)]
      constructor
      · exact fun h => .inr (.inr ⟨k6, h⟩)
      · rintro (h | h | h)
        · exact absurd h a
        · exact absurd k4 h.1
        · exact h.2
    · have k4 : x.kd = 4 := by simpa using k4
      have k6 : x.kd = 6 := by simpa using k6
      omega
  rintro u b26 w5 ⟨hb26, rfl⟩
  have hb8' : b8 = false ↔ ¬ ((1 ≤ x.kd ∧ x.kd ≤ 3) ∨ x.kd = 5) := by rw [← hb8]; simp
  refine br_split (fun bad => fin ?_) (fun ok => ?_)
  · have bad := hb26.1 bad
    rw [hb8'] at bad
    unfold formB
    split
    · rcases bad with h | h | h
      · simp [h.2]
      · simp [h.2]
      · simp [List.length_eq_zero_iff] at h ⊢; intro _ _; exact h.2
    · split
      · rcases bad with h | h | h
        · omega
        · simp [h.2]
        · simp [List.length_eq_zero_iff] at h ⊢; intro _ _; exact h.2
      · split
        · rcases bad with h | h | h
          · omega
          · simp [h.2]
          · simp [List.length_eq_zero_iff] at h ⊢; intro _ _ _; exact h.2
        · split
          · rcases bad with h | h | h
            · omega
            · simp [h.2]
            · simp [List.length_eq_zero_iff] at h ⊢; intro _; exact h.2
          · split
            · rcases bad with h | h | h
              · simp [h.2]
              · omega
              · simp [List.length_eq_zero_iff] at h ⊢; intro _; exact h.2
            · split
              · rcases bad with h | h | h
                · simp [h.2]
                · simp [h.2]
                · omega
              · rfl
  · have ok : ¬ ((b8 = false ∧ x.n ≠ 0) ∨ (x.kd ≠ 4 ∧ noS x.s = false) ∨ (x.kd ≠ 6 ∧ x.l.length ≠ 0)) := fun h => by rw [hb26.2 h] at ok; cases ok
    rw [hb8'] at ok
    have oN : ¬ ((1 ≤ x.kd ∧ x.kd ≤ 3) ∨ x.kd = 5) → x.n = 0 := fun h => by
      by_cases e : x.n = 0
      · exact e
      · exact absurd (.inl ⟨h, e⟩) ok
    have oS : x.kd ≠ 4 → noS x.s = true := fun h => by
      cases e : noS x.s
      · exact absurd (.inr (.inl ⟨h, e⟩)) ok
      · rfl
    have oL : x.kd ≠ 6 → x.l.length = 0 := fun h => by
      by_cases e : x.l.length = 0
      · exact e
      · exact absurd (.inr (.inr ⟨h, e⟩)) ok
    refine ldI_ok c0 <| br_split (fun k => ?_) (fun k => ldI_ok c0 <| br_split (fun k2 => ?_) (fun k2 => fin ?_))
    · have k : x.kd = 1 := by simpa using k
      have e : formB x = decide (x.n = 0 ∨ x.n = 1) := by rw [formB, if_neg (by omega), if_pos k, oS (by omega), oL (by omega)]; simp
      refine ldI_ok c1 <| br_split (fun n0 => fin ?_) (fun n0 => ldI_ok c1 <| fin ?_)
      · rw [e]; simp at n0; simp [n0]
      · rw [e]; simp at n0; rw [Bool.eq_iff_iff]; simp [n0]
    · have k2 : x.kd = 2 := by simpa using k2
      have e : formB x = decide (-2147483648 ≤ x.n ∧ x.n ≤ 2147483647) := by rw [formB, if_neg (by omega), if_neg (by omega), if_pos k2, oS (by omega), oL (by omega)]; simp
      refine ldI_ok c1 <| arith_raw <| arith_i64 ?_ ?_ <| ldI_ok c1 <| fin ?_
      · simp only [IntKind.wrap, IntKind.signed, IntKind.bits]; simp; split <;> omega
      · simp only [IntKind.wrap, IntKind.signed, IntKind.bits]; simp; split <;> omega
      · rw [e, Bool.eq_iff_iff]
        simp only [IntKind.wrap, IntKind.signed, IntKind.bits]
        simp
        split <;> omega
    · have k : x.kd ≠ 1 := by simpa using k
      have k2 : x.kd ≠ 2 := by simpa using k2
      unfold formB
      split
      · rw [oN (by omega), oS (by omega), oL (by omega)]; simp
      · split
        · rw [oS (by omega), oL (by omega)]; simp
        · split
          · rw [oN (by omega), oL (by omega)]; simp
          · rw [if_pos (by omega), oN (by omega), oS (by omega)]; simp
end

/-! ### all in one -/
def dn (d : Int) : Int := IntKind.wrap .i64 (d + 1)
def pre (d : Int) (x : VT) : List (Int × VT) := (d, x) :: x.l.attach.flatMap fun y => pre (dn d) y.1
termination_by SizeOf.sizeOf x
decreasing_by exact VT.sz y.2
theorem pre_eq (d : Int) (x : VT) : pre d x = (d, x) :: x.l.flatMap (pre (dn d)) := by
  rw [pre]
  congr 1
  rw [← List.attach_map_subtype_val x.l, List.flatMap_map]
  simp
def encD (q : Int × VT) : Array Value := #[.int .i64 q.1, .agg (va q.2)]
section
variable {w₀ : World}
theorem walk_ok {f : Fn} {b c : Array Value} {B : Nat → HP} {Bx : HP} {xs : List (Array Value)}
    (hy : ∀ k z, xs[k]? = some z → ∀ G w, Sat w₀ (B k * G) w → callV Try.prog f b c z w fun v w' => (v = .bool true ∧ Sat w₀ (B (k + 1) * G) w') ∨ (v = .bool false ∧ Sat w₀ (Bx * G) w')) (x : VT) :
    ∀ (d : Int) (k : Nat), (∀ j q, (pre d x)[j]? = some q → xs[k + j]? = some (encD q)) → (∀ j w, Sat w₀ (B j) w → VOk w x) → VIn x → ∀ F w, Sat w₀ (B k * F) w →
      call Try.prog fn_variant_walk #[.agg (va x), .int .i64 d, .func f b c] w fun v w' => (v = .bool true ∧ Sat w₀ (B (k + (pre d x).length) * F) w') ∨ (v = .bool false ∧ Sat w₀ (Bx * F) w') := by
  induction x using VT.ind with
  | h x ih =>
    intro d k hx hV hI F w h
    have hlen := hI.lens.2
    apply variant_walk_call
    unfold variant_walk
    refine new_ok h fun k1 w1 h1 => ?_
    have h1 : Sat w₀ (blk k1 (va x) 24 * (B k * F)) w1 := h1
    refine ldV4 h1 <| callV_mono (hy k (encD (d, x)) (by have := hx 0 (d, x) (by rw [pre_eq]; rfl); exact this) (blk k1 (va x) 24 * F) _ (h1.perm (by ac_rfl))) ?_
    rintro v w2 (⟨rfl, h2⟩ | ⟨rfl, h2⟩)
    · refine asB_ok <| br_false rfl ?_
      have h2 : Sat w₀ (blk k1 (va x) 24 * (B (k + 1) * F)) w2 := h2.perm (by ac_rfl)
      refine ldS_ok (cell_blk h2 (i := 3) (v := .slice x.p x.l.length x.c) rfl) ?_
      refine ⟨fun n w m => 0 ≤ n ∧ n ≤ x.l.length ∧ m = x.l.length - n.toNat ∧ Sat w₀ (blk k1 (va x) 24 * (B (k + 1 + ((x.l.take n.toNat).flatMap (pre (dn d))).length) * F)) w, ⟨_, by omega, by omega, rfl, by simpa using h2⟩, ?_⟩
      rintro u n w3 m ⟨h0, hn, rfl, h3⟩
      refine br_dec (fun hlt => ?_) (fun hge => .inl ⟨rfl, ?_⟩)
      · have hi : n.toNat < x.l.length := by omega
        have hyi : x.l[n.toNat]? = some x.l[n.toNat] := by simp [hi]
        have hrd := (hV _ _ h3.right.left).rd
        have hmem : x.l[n.toNat] ∈ x.l := List.getElem_mem hi
        refine idx_ok hrd h0 (by omega) fun a ha => rd_vc hrd ha hyi <| new_ok h3 fun k13 w4 h4 => stA_ok h4 rfl rfl (va_one _) fun w5 h5 => ldV4 h5 <| arith_raw ?_
        have e1 : (x.l.take (n.toNat + 1)).flatMap (pre (dn d)) = (x.l.take n.toNat).flatMap (pre (dn d)) ++ pre (dn d) x.l[n.toNat] := by
          rw [List.take_add_one, hyi, List.flatMap_append]
          simp
        have e2 : pre d x = (d, x) :: (((x.l.take n.toNat).flatMap (pre (dn d)) ++ pre (dn d) x.l[n.toNat]) ++ (x.l.drop (n.toNat + 1)).flatMap (pre (dn d))) := by
          rw [pre_eq, ← e1, ← List.flatMap_append, List.take_append_drop]
        refine call_mono (ih _ hmem (dn d) (k + 1 + ((x.l.take n.toNat).flatMap (pre (dn d))).length) (fun j q hq => ?_) (fun j w hw => (hV j w hw).part hmem) (hI.part hmem) (blk k13 (va x.l[n.toNat]) 24 * (blk k1 (va x) 24 * F)) _ (h5.perm (by
          show blk k13 _ 24 * _ = _
          ac_rfl))) ?_
        · have := hx (1 + ((x.l.take n.toNat).flatMap (pre (dn d))).length + j) q (by
            rw [e2, show 1 + ((x.l.take n.toNat).flatMap (pre (dn d))).length + j = (((x.l.take n.toNat).flatMap (pre (dn d))).length + j) + 1 by omega, List.getElem?_cons_succ]
            have hj := (List.getElem?_eq_some_iff.1 hq).1
            rw [List.getElem?_append_left (by rw [List.length_append]; omega), List.getElem?_append_right (by omega), Nat.add_sub_cancel_left]
            exact hq)
          rw [← this]
          congr 1
          omega
        · rintro v w6 (⟨rfl, h6⟩ | ⟨rfl, h6⟩)
          · refine asB_ok <| br_false rfl <| arith_i64 (by omega) (by omega) ⟨_, by omega, by omega, by omega, rfl, ?_⟩
            rw [show (n + 1).toNat = n.toNat + 1 by omega, e1, List.length_append, ← Nat.add_assoc]
            exact (h6.perm (B := blk k13 (va x.l[n.toNat]) 24 * (blk k1 (va x) 24 * (B (k + 1 + ((x.l.take n.toNat).flatMap (pre (dn d))).length + (pre (dn d) x.l[n.toNat]).length) * F))) (by ac_rfl)).right
          · exact asB_ok <| br_true rfl <| .inr ⟨rfl, (h6.perm (B := (blk k13 (va x.l[n.toNat]) 24 * blk k1 (va x) 24) * (Bx * F)) (by ac_rfl)).right⟩
      · rw [List.take_of_length_le (by omega)] at h3
        rw [pre_eq, List.length_cons]
        rw [show k + ((x.l.flatMap (pre (dn d))).length + 1) = k + 1 + (x.l.flatMap (pre (dn d))).length by omega]
        exact h3.right
    · exact asB_ok <| br_true rfl <| .inr ⟨rfl, (h2.perm (B := blk k1 (va x) 24 * (Bx * F)) (by ac_rfl)).right⟩
theorem variant_Walk_ok {w : World} {F : HP} {x : VT} (h : Sat w₀ F w) :
    call Try.prog fn_variant_Walk #[.agg (va x)] w fun v w' => ∃ k, v = .func (.func fn_variant_Walk_1) #[] #[.pointer (some ⟨k, 0, none⟩)] ∧ Sat w₀ (blk k (va x) 24 * F) w' := by
  apply variant_Walk_call
  unfold variant_Walk
  exact new_ok h fun k w1 h1 => ⟨k, rfl, h1⟩
theorem Walk_iter {k : Nat} {x : VT} {Pre : Nat → HP} (hP : ∀ w, Sat w₀ (Pre 0) w → Sat w₀ (blk k (va x) 24) w) (hV : ∀ j w, Sat w₀ (Pre j) w → VOk w x) (hI : VIn x) :
    IterC Try.prog w₀ fn_variant_Walk_1 #[.pointer (some ⟨k, 0, none⟩)] Pre ((pre 0 x).map encD) := by
  intro f b c B Bx hok hB hy F w h
  show call Try.prog _ #[.func f b c, .pointer (some ⟨k, 0, none⟩)] w _
  apply variant_Walk_1_call
  unfold variant_Walk_1
  have h1 := (hP _ (hB 0 _ h.left)).with_emp.e1
  refine ldV4 h1 <| call_mono (walk_ok hy x 0 0 (fun j q hq => by rw [Nat.zero_add, List.getElem?_map, hq]; rfl) (fun j w hw => hV j w (hB j w hw)) hI F w h) ?_
  rintro v w1 (⟨rfl, h2⟩ | ⟨rfl, h2⟩)
  · rw [Nat.zero_add] at h2
    rw [List.length_map]
    exact asB_ok (.inl h2)
  · exact asB_ok (.inr h2)
end

/-! ### the checks -/
def chk1 (d : Int) (x : VT) : Int := if d ≥ 8 then 16 else if formB x = false then 5 else if x.s.size > 256 then 20 else if x.l.length > 64 then 20 else 0
def nz : List Int → Int
  | [] => 0
  | e :: es => if e ≠ 0 then e else nz es
theorem nz_append (a b : List Int) : nz (a ++ b) = if nz a ≠ 0 then nz a else nz b := by
  induction a with
  | nil => simp [nz]
  | cons e a ih =>
    rw [List.cons_append, nz, nz, ih]
    by_cases he : e = 0
    · simp [he]
    · simp [he]
def chkR (d : Int) (x : VT) : Int := nz ((pre d x).map fun q => chk1 q.1 q.2)
theorem chkR_eq (d : Int) (x : VT) : chkR d x = if chk1 d x ≠ 0 then chk1 d x else nz (x.l.map (chkR (dn d))) := by
  rw [chkR, pre_eq, List.map_cons, nz]
  congr 1
  generalize x.l = l
  induction l with
  | nil => rfl
  | cons y l ih =>
    rw [List.flatMap_cons, List.map_append, nz_append, List.map_cons, nz, ih]
    rfl
section
variable {w₀ w : World} {F : HP} {x : VT}
theorem variant_Check_ok (h : Sat w₀ F w) (hV : VGives F x) (hI : VIn x) : call Try.prog fn_variant_Check #[.agg (va x)] w fun v w' => v = .int .i64 (chkR 0 x) ∧ Sat w₀ F w' := by
  apply variant_Check_call
  unfold variant_Check
  refine new_ok h fun k1 w1 h1 => new_ok h1 fun k2 w2 h2 => ldV4 h2.right <| call_mono (variant_Walk_ok h2) ?_
  rintro _ w3 ⟨k, rfl, h3⟩
  have h3 : Sat w₀ (blk k (va x) 24 * (blk k2 #[.int .i64 0] 25 * (blk k1 (va x) 24 * F))) w3 := h3
  let A : Nat → HP := fun j => prop (∀ q ∈ (pre 0 x).take j, chk1 q.1 q.2 = 0) * (blk k (va x) 24 * (blk k2 #[.int .i64 0] 25 * (blk k1 (va x) 24 * F)))
  have hvA : ∀ j w, Sat w₀ (A j) w → VOk w x := fun j w hw => hV _ _ hw.right.right.right.right
  refine asF_ok ⟨w₀, fn_variant_Walk_1, _, (pre 0 x).map encD, A, fun c => prop (c = .ret) * (blk k2 #[.int .i64 (chkR 0 x)] 25 * F),
    rfl, ⟨_, _, Try.func40, rfl⟩, h3.add_prop (by simp), ?_, Walk_iter (fun w hw => hw.right.left) hvA hI, ?_, ?_, ?_⟩
  · intro z hz
    obtain ⟨y, _, rfl⟩ := List.mem_map.1 hz
    rfl
  · intro j z hz G G' T w5 hT h5
    rw [List.getElem?_map] at hz
    obtain ⟨q, hq, rfl⟩ := Option.map_eq_some_iff.1 hz
    have hlt := (List.getElem?_eq_some_iff.1 hq).1
    refine ⟨_, _, rfl, new_ok h5 fun k12 w6 h6 => stA_ok h6 rfl rfl (va_one _) fun w7 h7 => hT (blk k12 (va q.2) 24 * A j) _ _ (h7.perm (by
      show blk k12 _ 24 * _ = _
      ac_rfl)) fun w8 h8 => ?_⟩
    have h9 := h8.perm (B := prop (∀ q ∈ (pre 0 x).take j, chk1 q.1 q.2 = 0) * (blk k2 #[.int .i64 0] 25 * (blk k12 (va q.2) 24 * (blk k (va x) 24 * (blk k1 (va x) 24 * (F * G')))))) (by simp only [A]; ac_rfl)
    have hno := h9.prop
    have h9 := h9.right
    have e3 : pre 0 x = (pre 0 x).take j ++ q :: (pre 0 x).drop (j + 1) := by
      conv => lhs; rw [← List.take_append_drop j (pre 0 x), List.drop_eq_getElem_cons hlt]
      rw [List.getElem?_eq_getElem hlt] at hq
      rw [Option.some.inj hq]
    have nz0 : ∀ l : List (Int × VT), (∀ q ∈ l, chk1 q.1 q.2 = 0) → nz (l.map fun q => chk1 q.1 q.2) = 0 := by
      intro l
      induction l with
      | nil => intro _; rfl
      | cons a l ih =>
        intro h
        rw [List.map_cons, nz, if_neg (by simp [h a (.head _)])]
        exact ih fun q hq => h q (.tail _ hq)
    have found : chk1 q.1 q.2 ≠ 0 → chkR 0 x = chk1 q.1 q.2 := fun hne => by
      rw [chkR, e3, List.map_append, nz_append, nz0 _ hno, if_neg (by simp), List.map_cons, nz, if_pos hne]
    have ends : ∀ {w : World} {e : Int}, Sat w₀ (blk k2 #[.int .i64 0] 25 * (blk k12 (va q.2) 24 * (blk k (va x) 24 * (blk k1 (va x) 24 * (F * G'))))) w → chk1 q.1 q.2 = e → e ≠ 0 → st (⟨k2, 0, none⟩ : Addr) (.int .i64 e) w fun w' => Sat w₀ ((prop (Code.ret = Code.ret) * (blk k2 #[.int .i64 (chkR 0 x)] 25 * F)) * G') w' := by
      intro w e hw he hne
      refine st_ok (i := 0) hw (by simp) fun w' hw' => ?_
      rw [found (by rw [he]; exact hne), he]
      exact (((hw'.perm (B := (blk k12 (va q.2) 24 * (blk k (va x) 24 * blk k1 (va x) 24)) * (blk k2 #[.int .i64 e] 25 * (F * G'))) (by
        show blk k2 #[.int .i64 e] 25 * _ = _
        ac_rfl)).right).add_prop rfl).perm (by ac_rfl)
    refine br_dec (fun hd => ends h9 (by rw [chk1, if_pos hd]) (by decide)) (fun hd => ldV4 h9.right <| call_mono (variant_right_ok h9) ?_)
    rintro _ w9 ⟨rfl, h10⟩
    refine asB_ok <| br_split (fun hf => ends h10 (by rw [chk1, if_neg hd, if_pos (by simpa using hf)]) (by decide)) (fun hf => ?_)
    have hf : formB q.2 = true := by simpa using hf
    refine ldT_ok (cell_blk h10.right (i := 2) (v := .string q.2.s) rfl) <| br_dec (fun hs => ends h10 (by rw [chk1, if_neg hd, if_neg (by simp [hf]), if_pos (by omega)]) (by decide)) (fun hs => ?_)
    refine ldS_ok (cell_blk h10.right (i := 3) (v := .slice q.2.p q.2.l.length q.2.c) rfl) <| br_dec (fun hl => ends h10 (by rw [chk1, if_neg hd, if_neg (by simp [hf]), if_neg (by omega), if_pos (by omega)]) (by decide)) (fun hl => ?_)
    have h0 : chk1 q.1 q.2 = 0 := by rw [chk1, if_neg hd, if_neg (by simp [hf]), if_neg (by omega), if_neg (by omega)]
    refine ((h10.perm (B := blk k12 (va q.2) 24 * ((blk k (va x) 24 * (blk k2 #[.int .i64 0] 25 * (blk k1 (va x) 24 * F))) * G')) (by ac_rfl)).right.add_prop (p := ∀ q ∈ (pre 0 x).take (j + 1), chk1 q.1 q.2 = 0) ?_).perm (by simp only [A]; ac_rfl)
    intro q' hq'
    rw [List.take_add_one, hq] at hq'
    rcases List.mem_append.1 hq' with hq' | hq'
    · exact hno q' hq'
    · simp at hq'; subst hq'; exact h0
  · intro D w5 h5
    rw [List.length_map] at h5
    have h6 := h5.perm (B := prop (∀ q ∈ (pre 0 x).take (pre 0 x).length, chk1 q.1 q.2 = 0) * (blk k2 #[.int .i64 0] 25 * (markH D * (blk k (va x) 24 * (blk k1 (va x) 24 * F))))) (by simp only [A]; ac_rfl)
    have hno := h6.prop
    rw [List.take_length] at hno
    have e : chkR 0 x = 0 := by
      rw [chkR]
      generalize pre 0 x = l at hno
      induction l with
      | nil => rfl
      | cons a l ih =>
        rw [List.map_cons, nz, if_neg (by simp [hno a (.head _)])]
        exact ih fun q hq => hno q (.tail _ hq)
    rw [e]
    refine st_ok (i := 0) h6.right (by simp) fun w6 h7 => ?_
    have h7 : Sat w₀ (blk k2 #[.int .i64 0] 25 * (markH D * (blk k (va x) 24 * (blk k1 (va x) 24 * F)))) w6 := h7
    refine shutD_ok (h7.perm (B := markH D * (blk k2 #[.int .i64 0] 25 * (blk k (va x) 24 * (blk k1 (va x) 24 * F)))) (by ac_rfl)) fun w7 h8 => ldI_ok (h8.left.cell (i := 0) rfl) ⟨rfl, h8.right.right.right⟩
  · intro D c w5 h5
    have h6 := h5.perm (B := prop (c = .ret) * (markH D * (blk k2 #[.int .i64 (chkR 0 x)] 25 * F))) (by first | ac_rfl | (dsimp only; ac_rfl))
    obtain rfl := h6.prop
    exact jmp_ret <| shutD_ok h6.right fun w7 h8 => ldI_ok (h8.left.cell (i := 0) rfl) ⟨rfl, h8.right⟩
theorem ref_Check_ok : ∀ (x : VT) (d : Int), 0 ≤ d → d ≤ 8 → VIn x → ∀ (F : HP) (w : World), VGives F x → Sat w₀ F w → call Try.prog fn_tenonref06_Check #[.agg (va x), .int .i64 (d + 1)] w fun v w' => v = .int .i64 (chkR d x) ∧ Sat w₀ F w' := by
  intro x
  induction x using VT.ind with
  | h x ih =>
    intro d d0 d8 hI F w hV h
    apply tenonref06_Check_call
    unfold tenonref06_Check
    have hlens := hI.lens
    refine new_ok h fun k1 w1 h1 => ?_
    have h1 : Sat w₀ (blk k1 (va x) 24 * F) w1 := h1
    rw [chkR_eq]
    refine br_dec (fun hd => ⟨?_, h1.right⟩) (fun hd => ldV4 h1 <| call_mono (ref_form_ok h1) ?_)
    · have e : chk1 d x = 16 := by rw [chk1, if_pos (by omega)]
      rw [e]; rfl
    rintro _ w2 ⟨rfl, h2⟩
    refine asB_ok <| br_split (fun hf => ⟨?_, h2.right⟩) (fun hf => ?_)
    · have e : chk1 d x = 5 := by rw [chk1, if_neg (by omega), if_pos (by simpa using hf)]
      rw [e]; rfl
    have hf : formB x = true := by simpa using hf
    refine ldT_ok (cell_blk h2 (i := 2) (v := .string x.s) rfl) <| br_dec (fun hs => ⟨?_, h2.right⟩) (fun hs => ?_)
    · have e : chk1 d x = 20 := by rw [chk1, if_neg (by omega), if_neg (by simp [hf]), if_pos (by omega)]
      rw [e]; rfl
    have c3 : ∀ {w}, Sat w₀ (blk k1 (va x) 24 * F) w → w.cell? ((⟨k1, 0, none⟩ : Addr).add 3) = some (.slice x.p x.l.length x.c) := fun h => cell_blk h (i := 3) rfl
    refine ldS_ok (c3 h2) <| br_dec (fun hl => ⟨?_, h2.right⟩) (fun hl => ?_)
    · have e : chk1 d x = 20 := by rw [chk1, if_neg (by omega), if_neg (by simp [hf]), if_neg (by omega), if_pos (by omega)]
      rw [e]; rfl
    have e0 : chk1 d x = 0 := by rw [chk1, if_neg (by omega), if_neg (by simp [hf]), if_neg (by omega), if_neg (by omega)]
    have edn : dn d = d + 1 := by
      unfold dn
      simp only [IntKind.wrap, IntKind.signed, IntKind.bits]
      simp
      split <;> omega
    rw [e0, if_neg (by simp), edn]
    refine ⟨fun n w m => 0 ≤ n ∧ n ≤ x.l.length ∧ m = x.l.length - n.toNat ∧ nz ((x.l.take n.toNat).map (chkR (d + 1))) = 0 ∧ Sat w₀ (blk k1 (va x) 24 * F) w, ⟨_, by omega, by omega, rfl, rfl, h2⟩, ?_⟩
    rintro u n w3 m ⟨n0, nl, rfl, hz, h3⟩
    refine ldS_ok (c3 h3) <| br_dec (fun hlt => ?_) (fun hge => ⟨?_, h3.right⟩)
    · have hi : n.toNat < x.l.length := by omega
      have hyi : x.l[n.toNat]? = some x.l[n.toNat] := by simp [hi]
      have hrd := (hV _ _ h3.right).rd
      have hmem : x.l[n.toNat] ∈ x.l := List.getElem_mem hi
      have e3 : x.l = x.l.take n.toNat ++ x.l[n.toNat] :: x.l.drop (n.toNat + 1) := by
        conv => lhs; rw [← List.take_append_drop n.toNat x.l, List.drop_eq_getElem_cons hi]
      refine ldS_ok (c3 h3) <| idx_ok hrd n0 (by omega) fun a ha => rd_vc hrd ha hyi <| arith_i64 (by omega) (by omega) <| call_mono (ih _ hmem (d + 1) (by omega) (by omega) (hI.part hmem) _ w3 (VGives.right (hV.part hmem)) h3) ?_
      rintro _ w4 ⟨rfl, h4⟩
      refine asI_ok <| br_split (fun hne => ⟨?_, h4.right⟩) (fun he => ?_)
      · have hne : chkR (d + 1) x.l[n.toNat] ≠ 0 := by simpa using hne
        have em : x.l.map (chkR (d + 1)) = (x.l.take n.toNat).map (chkR (d + 1)) ++ (chkR (d + 1) x.l[n.toNat] :: (x.l.drop (n.toNat + 1)).map (chkR (d + 1))) := by
          conv => lhs; rw [e3]
          rw [List.map_append, List.map_cons]
        rw [em, nz_append, hz, if_neg (by simp), nz, if_pos hne]
      · have he : chkR (d + 1) x.l[n.toNat] = 0 := by simpa using he
        refine arith_i64 (by omega) (by omega) ⟨_, by omega, by omega, by omega, rfl, ?_, h4⟩
        rw [show (n + 1).toNat = n.toNat + 1 by omega, List.take_add_one, hyi, List.map_append, nz_append, hz, if_neg (by simp)]
        simp [nz, he]
    · rw [List.take_of_length_le (by omega)] at hz
      rw [hz]
end
end Go.Proofs.Ytmecgkeplkchcaa
