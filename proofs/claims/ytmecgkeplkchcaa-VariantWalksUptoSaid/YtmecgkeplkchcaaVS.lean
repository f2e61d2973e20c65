/- Values: when two are alike. No conditions. -/
import Derived.Test.YtmecgkeplkchcaaV2
set_option linter.unusedVariables false
set_option linter.unusedSimpArgs false
set_option linter.unusedSectionVars false
set_option maxRecDepth 100000
namespace Go.Proofs.Ytmecgkeplkchcaa
open Go.Sp Go.RowKit

/-- A value without its places. -/
def er (x : VT) : VT := .mk x.kd x.n x.s none 0 (x.l.attach.map fun y => er y.1)
termination_by SizeOf.sizeOf x
decreasing_by exact VT.sz y.2
theorem er_def (x : VT) : er x = .mk x.kd x.n x.s none 0 (x.l.map er) := by
  rw [er]
  congr 1
  rw [← List.attach_map_subtype_val x.l, List.map_map]
  simp
theorem er_iff (x y : VT) : er x = er y ↔ x.kd = y.kd ∧ x.n = y.n ∧ x.s = y.s ∧ x.l.map er = y.l.map er := by
  rw [er_def x, er_def y]
  simp
theorem beq_bytes {a b : ByteArray} : (a.toList == b.toList) = decide (a = b) := by
  rw [ByteArray.toList_eq, ByteArray.toList_eq, Bool.eq_iff_iff]
  simp only [beq_iff_eq, decide_eq_true_eq]
  constructor
  · intro h
    cases a with
    | mk a => cases b with
      | mk b => congr 1; exact Array.toList_inj.1 h
  · rintro rfl; rfl
theorem map_take_ne {xs ys : List VT} {i : Nat} (hi : i < xs.length) (hj : i < ys.length) (h : er xs[i] ≠ er ys[i]) : xs.map er ≠ ys.map er := by
  intro e
  apply h
  have h1 : (xs.map er)[i]? = (ys.map er)[i]? := by rw [e]
  simpa [hi, hj] using h1
section
variable {w₀ : World}
/-- What comparing two values answers. -/
def SameA (F : HP) (w₀ : World) (x y : VT) (v : Value) (w : World) : Prop := ∃ b, v = .bool b ∧ (b = true ↔ er x = er y) ∧ Sat w₀ F w
theorem ref_Same_ok (x : VT) : ∀ (y : VT) (F : HP) (w : World), VIn x → VGives F x → VGives F y → Sat w₀ F w → call Try.prog fn_tenonref06_Same #[.agg (va x), .agg (va y)] w (SameA F w₀ x y) := by
  induction x using VT.ind with
  | h x ih =>
    intro y F w hI hV hU h
    apply tenonref06_Same_call
    unfold tenonref06_Same
    refine new_ok h fun k1 w1 h1 => new_ok h1 fun k2 w2 h2 => ?_
    have h2 : Sat w₀ (blk k2 (va y) 24 * (blk k1 (va x) 24 * F)) w2 := h2
    have cx : ∀ {w : World} (i : Nat) {v : Value}, Sat w₀ (blk k2 (va y) 24 * (blk k1 (va x) 24 * F)) w → (va x)[i]? = some v → w.cell? ((⟨k1, 0, none⟩ : Addr).add i) = some v := @fun _ i _ h e => cell_blk h.right e
    have cy : ∀ {w : World} (i : Nat) {v : Value}, Sat w₀ (blk k2 (va y) 24 * (blk k1 (va x) 24 * F)) w → (va y)[i]? = some v → w.cell? ((⟨k2, 0, none⟩ : Addr).add i) = some v := @fun _ i _ h e => cell_blk h e
    have no : ∀ {w : World}, Sat w₀ (blk k2 (va y) 24 * (blk k1 (va x) 24 * F)) w → er x ≠ er y → SameA F w₀ x y (.bool false) w := fun h e => ⟨_, rfl, by simp [e], h.right.right⟩
    refine ldI_ok (cx 0 h2 rfl) <| ldI_ok (cy 0 h2 rfl) <| br_split (fun e => no h2 fun q => ?_) (fun e0 => ?_)
    · have := ((er_iff x y).1 q).1; simp [this] at e
    refine ldI_ok (cx 1 h2 rfl) <| ldI_ok (cy 1 h2 rfl) <| br_split (fun e => no h2 fun q => ?_) (fun e1 => ?_)
    · have := ((er_iff x y).1 q).2.1; simp [this] at e
    refine ldT_ok (cx 2 h2 rfl) <| ldT_ok (cy 2 h2 rfl) <| br_split (fun e => no h2 fun q => ?_) (fun e2 => ?_)
    · have := ((er_iff x y).1 q).2.2.1; simp [this] at e
    refine ldS_ok (cx 3 h2 rfl) <| ldS_ok (cy 3 h2 rfl) <| br_split (fun e => no h2 fun q => ?_) (fun e3 => ?_)
    · have := congrArg List.length ((er_iff x y).1 q).2.2.2; simp only [List.length_map] at this; simp [this] at e
    have e0 : x.kd = y.kd := by simpa using e0
    have e1 : x.n = y.n := by simpa using e1
    have e2 : x.s = y.s := by rw [beq_bytes] at e2; simpa using e2
    have e3 : x.l.length = y.l.length := by simp at e3; omega
    have hlens := hI.lens
    refine ⟨fun n w m => 0 ≤ n ∧ n ≤ x.l.length ∧ m = x.l.length - n.toNat ∧ (x.l.take n.toNat).map er = (y.l.take n.toNat).map er ∧ Sat w₀ (blk k2 (va y) 24 * (blk k1 (va x) 24 * F)) w, ⟨_, by omega, by omega, rfl, rfl, h2⟩, ?_⟩
    rintro u n w3 m ⟨n0, nl, rfl, hz, h3⟩
    refine ldS_ok (cx 3 h3 rfl) <| br_dec (fun hlt => ?_) (fun hge => ?_)
    · have h3 := h3.drew
      have hi : n.toNat < x.l.length := by omega
      have hj : n.toNat < y.l.length := by omega
      have hxi : x.l[n.toNat]? = some x.l[n.toNat] := by simp [hi]
      have hyi : y.l[n.toNat]? = some y.l[n.toNat] := by simp [hj]
      have rx := (hV _ _ h3.right.right).rd
      have ry := (hU _ _ h3.right.right).rd
      refine ldS_ok (cx 3 h3 rfl) <| idx_ok rx n0 (by omega) fun a ha => rd_vc rx ha hxi <| ldS_ok (cy 3 h3 rfl) <| idx_ok ry n0 (by omega) fun a' ha' => rd_vc ry ha' hyi <| call_mono (ih _ (List.getElem_mem hi) y.l[n.toNat] _ _ (hI.part (List.getElem_mem hi)) (VGives.right (VGives.right (hV.part (List.getElem_mem hi)))) (VGives.right (VGives.right (hU.part (List.getElem_mem hj)))) h3) ?_
      rintro _ w4 ⟨b, rfl, hb, h4⟩
      refine asB_ok <| br_split (fun hne => no h4 fun q => ?_) (fun he => ?_)
      · exact map_take_ne hi hj (fun e => by rw [hb.2 e] at hne; cases hne) ((er_iff x y).1 q).2.2.2
      · have he : b = true := by simpa using he
        refine arith_i64 (by omega) (by omega) ⟨_, by omega, by omega, by omega, rfl, ?_, h4⟩
        rw [show (n + 1).toNat = n.toNat + 1 by omega, List.take_add_one, List.take_add_one, hxi, hyi, List.map_append, List.map_append, hz]
        simp [hb.1 he]
    · rw [List.take_of_length_le (by omega), List.take_of_length_le (by omega)] at hz
      exact ⟨_, rfl, ⟨fun _ => (er_iff x y).2 ⟨e0, e1, e2, hz⟩, fun _ => rfl⟩, h3.right.right⟩
theorem variant_Same_ok (x : VT) : ∀ (y : VT) (F : HP) (w : World), VIn x → VGives F x → VGives F y → Sat w₀ F w → call Try.prog fn_variant_Same #[.agg (va x), .agg (va y)] w (SameA F w₀ x y) := by
  induction x using VT.ind with
  | h x ih =>
    intro y F w hI hV hU h
    apply variant_Same_call
    unfold variant_Same
    refine new_ok h fun k1 w1 h1 => new_ok h1 fun k2 w2 h2 => ?_
    have h2 : Sat w₀ (blk k2 (va y) 24 * (blk k1 (va x) 24 * F)) w2 := h2
    have cx : ∀ {w : World} (i : Nat) {v : Value}, Sat w₀ (blk k2 (va y) 24 * (blk k1 (va x) 24 * F)) w → (va x)[i]? = some v → w.cell? ((⟨k1, 0, none⟩ : Addr).add i) = some v := @fun _ i _ h e => cell_blk h.right e
    have cy : ∀ {w : World} (i : Nat) {v : Value}, Sat w₀ (blk k2 (va y) 24 * (blk k1 (va x) 24 * F)) w → (va y)[i]? = some v → w.cell? ((⟨k2, 0, none⟩ : Addr).add i) = some v := @fun _ i _ h e => cell_blk h e
    have no : ∀ {w : World}, Sat w₀ (blk k2 (va y) 24 * (blk k1 (va x) 24 * F)) w → er x ≠ er y → SameA F w₀ x y (.bool false) w := fun h e => ⟨_, rfl, by simp [e], h.right.right⟩
    refine ldI_ok (cx 0 h2 rfl) <| ldI_ok (cy 0 h2 rfl) <| br_split (fun e => no h2 fun q => ?_) (fun e0 => ?_)
    · have := ((er_iff x y).1 q).1; simp [this] at e
    refine ldI_ok (cx 1 h2 rfl) <| ldI_ok (cy 1 h2 rfl) <| br_split (fun e => no h2 fun q => ?_) (fun e1 => ?_)
    · have := ((er_iff x y).1 q).2.1; simp [this] at e
    refine ldT_ok (cx 2 h2 rfl) <| ldT_ok (cy 2 h2 rfl) <| br_split (fun e => no h2 fun q => ?_) (fun e2 => ?_)
    · have := ((er_iff x y).1 q).2.2.1; simp [this] at e
    refine ldS_ok (cx 3 h2 rfl) <| ldS_ok (cy 3 h2 rfl) <| br_split (fun e => no h2 fun q => ?_) (fun e3 => ?_)
    · have := congrArg List.length ((er_iff x y).1 q).2.2.2; simp only [List.length_map] at this; simp [this] at e
    have e0 : x.kd = y.kd := by simpa using e0
    have e1 : x.n = y.n := by simpa using e1
    have e2 : x.s = y.s := by rw [beq_bytes] at e2; simpa using e2
    have e3 : x.l.length = y.l.length := by simp at e3; omega
    have hlens := hI.lens
    refine ldS_ok (cx 3 h2 rfl) ⟨fun n w m => 0 ≤ n ∧ n ≤ x.l.length ∧ m = x.l.length - n.toNat ∧ (x.l.take n.toNat).map er = (y.l.take n.toNat).map er ∧ Sat w₀ (blk k2 (va y) 24 * (blk k1 (va x) 24 * F)) w, ⟨_, by omega, by omega, rfl, rfl, h2⟩, ?_⟩
    rintro u n w3 m ⟨n0, nl, rfl, hz, h3⟩
    refine br_dec (fun hlt => ?_) (fun hge => ?_)
    · have hi : n.toNat < x.l.length := by omega
      have hj : n.toNat < y.l.length := by omega
      have hxi : x.l[n.toNat]? = some x.l[n.toNat] := by simp [hi]
      have hyi : y.l[n.toNat]? = some y.l[n.toNat] := by simp [hj]
      have rx := (hV _ _ h3.right.right).rd
      refine idx_ok rx n0 (by omega) fun a ha => rd_vc rx ha hxi <| new_ok h3 fun k4 w4 h4 => stA_ok h4 rfl rfl (va_one _) fun w5 h5 => ?_
      have h5 : Sat w₀ (blk k4 (va x.l[n.toNat]) 24 * (blk k2 (va y) 24 * (blk k1 (va x) 24 * F))) w5 := h5
      have h5 := h5.drew
      have ry := (hU _ _ h5.right.right.right).rd
      refine ldV4 h5 <| ldS_ok (cy 3 h5.right rfl) <| idx_ok ry n0 (by omega) fun a' ha' => rd_vc ry ha' hyi <| call_mono (ih _ (List.getElem_mem hi) y.l[n.toNat] _ _ (hI.part (List.getElem_mem hi)) (VGives.right (VGives.right (VGives.right (hV.part (List.getElem_mem hi))))) (VGives.right (VGives.right (VGives.right (hU.part (List.getElem_mem hj))))) h5) ?_
      rintro _ w6 ⟨b, rfl, hb, h6⟩
      have h6 := h6.right
      refine asB_ok <| br_split (fun hne => no h6 fun q => ?_) (fun he => ?_)
      · exact map_take_ne hi hj (fun e => by rw [hb.2 e] at hne; cases hne) ((er_iff x y).1 q).2.2.2
      · have he : b = true := by simpa using he
        refine arith_i64 (by omega) (by omega) ⟨_, by omega, by omega, by omega, rfl, ?_, h6⟩
        rw [show (n + 1).toNat = n.toNat + 1 by omega, List.take_add_one, List.take_add_one, hxi, hyi, List.map_append, List.map_append, hz]
        simp [hb.1 he]
    · rw [List.take_of_length_le (by omega), List.take_of_length_le (by omega)] at hz
      exact ⟨_, rfl, ⟨fun _ => (er_iff x y).2 ⟨e0, e1, e2, hz⟩, fun _ => rfl⟩, h3.right.right⟩
end
end Go.Proofs.Ytmecgkeplkchcaa
