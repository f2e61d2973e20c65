/- Going over an arena: the iterator's contract, and what is gathered of it. No conditions. -/
import Derived.Test.YtifcjbgkcgbefaaA7
set_option linter.unusedVariables false
set_option linter.unusedSimpArgs false
namespace Go.Proofs.Ytifcjbgkcgbefaa
open Go.Sp Go.RowKit

/-- What is there, by rising places. -/
def liveFrom : Nat → List Spot → List (Nat × Spot)
  | _, [] => []
  | i, y :: ys => if y.st = 1 then (i, y) :: liveFrom (i + 1) ys else liveFrom (i + 1) ys
theorem liveFrom_append (ys : List Spot) (y : Spot) : ∀ i, liveFrom i (ys ++ [y]) = liveFrom i ys ++ (if y.st = 1 then [(i + ys.length, y)] else []) := by
  induction ys with
  | nil => intro i; simp [liveFrom]
  | cons z ys ih =>
    intro i
    rw [List.cons_append, liveFrom, liveFrom, ih]
    have e : i + 1 + ys.length = i + (z :: ys).length := by simp; omega
    rw [e]
    split <;> rfl
theorem liveFrom_more (ys zs : List Spot) : ∀ i, liveFrom i (ys ++ zs) = liveFrom i ys ++ liveFrom (i + ys.length) zs := by
  induction ys with
  | nil => intro i; simp [liveFrom]
  | cons y ys ih =>
    intro i
    rw [List.cons_append, liveFrom, liveFrom, ih]
    have e : i + 1 + ys.length = i + (y :: ys).length := by simp; omega
    rw [e]
    split <;> rfl
theorem liveFrom_get (ys : List Spot) : ∀ (i j : Nat) (p : Nat × Spot), (liveFrom i ys)[j]? = some p → i ≤ p.1 ∧ ys[p.1 - i]? = some p.2 ∧ p.2.st = 1 := by
  induction ys with
  | nil => intro i j p h; simp [liveFrom] at h
  | cons y ys ih =>
    intro i j p h
    rw [liveFrom] at h
    have key : ∀ j : Nat, (liveFrom (i + 1) ys)[j]? = some p → i ≤ p.1 ∧ (y :: ys)[p.1 - i]? = some p.2 ∧ p.2.st = 1 := by
      intro j h
      obtain ⟨h1, h2, h3⟩ := ih (i + 1) j p h
      refine ⟨by omega, ?_, h3⟩
      rw [show p.1 - i = p.1 - (i + 1) + 1 by omega, List.getElem?_cons_succ]
      exact h2
    split at h
    · rename_i hy
      cases j with
      | zero => simp at h; subst h; exact ⟨Nat.le_refl _, by simp, hy⟩
      | succ j => exact key j (by simpa using h)
    · exact key j h
theorem liveFrom_rise (ys : List Spot) : ∀ (i j : Nat) (p q : Nat × Spot), (liveFrom i ys)[j]? = some p → (liveFrom i ys)[j + 1]? = some q → p.1 < q.1 := by
  induction ys with
  | nil => intro i j p q h; simp [liveFrom] at h
  | cons y ys ih =>
    intro i j p q h k
    rw [liveFrom] at h k
    split at h
    · rename_i hy
      rw [if_pos hy] at k
      cases j with
      | zero =>
        simp at h
        subst h
        have := (liveFrom_get ys (i + 1) 0 q (by simpa using k)).1
        show i < q.1
        omega
      | succ j => exact ih (i + 1) j p q (by simpa using h) (by simpa using k)
    · rename_i hy
      rw [if_neg hy] at k
      exact ih (i + 1) j p q h k
theorem allFrom_live (ys : List Spot) : ∀ i, allFrom i ys = (liveFrom i ys).map fun p => hd p.1 p.2.g := by
  induction ys with
  | nil => intro i; rfl
  | cons y ys ih =>
    intro i
    rw [allFrom, liveFrom, ih]
    split <;> rfl
theorem liveFrom_length (ys : List Spot) (i : Nat) : (liveFrom i ys).length = ys.countP (·.st == 1) := by
  rw [← allFrom_length ys i, allFrom_live, List.length_map]
def pairOf (p : Nat × Spot) : Int × Int := (hd p.1 p.2.g, p.2.x)
def enc2 (p : Int × Int) : Array Value := #[.int .u64 p.1, .int .i64 p.2]

theorem arena_All_ok {w₀ w : World} {F : HP} {x : Option Addr} (h : Sat w₀ F w) :
    call Try.prog fn_arena_Arena_All #[.pointer x] w fun v w' => ∃ k t, v = .func (.func fn_arena_Arena_All_1) #[] #[.pointer (some ⟨k, 0, none⟩)] ∧ Sat w₀ (blk k #[.pointer x] t * F) w' := by
  apply arena_Arena_All_call
  unfold arena_Arena_All
  exact new_ok h fun k w1 h1 => ⟨k, _, rfl, h1⟩
theorem All_nil {k t : Nat} {Pre : HP} (hP : ∀ w₀ w, Sat w₀ Pre w → Sat w₀ (blk k #[.pointer none] t) w) :
    IterC Try.prog fn_arena_Arena_All_1 #[.pointer (some ⟨k, 0, none⟩)] Pre [] := by
  intro f b c w₀ B Bx hok hB hy F w h
  show call Try.prog _ #[.func f b c, .pointer (some ⟨k, 0, none⟩)] w _
  apply arena_Arena_All_1_call
  unfold arena_Arena_All_1
  exact ldP_ok ((hP _ _ (hB _ h.left)).cell (i := 0) rfl) <| br_true rfl <| .inl h
theorem All_iter {k a t : Nat} {s : AS} {Pre : HP} (hs : AOk s) (hP : ∀ w₀ w, Sat w₀ Pre w → Sat w₀ (blk k #[.pointer (some ⟨a, 0, none⟩)] t * Ar a s) w) :
    IterC Try.prog fn_arena_Arena_All_1 #[.pointer (some ⟨k, 0, none⟩)] Pre ((liveFrom 0 s.sp).map fun p => enc2 (pairOf p)) := by
  intro f b c w₀ B Bx hok hB hy F w h
  show call Try.prog _ #[.func f b c, .pointer (some ⟨k, 0, none⟩)] w _
  apply arena_Arena_All_1_call
  unfold arena_Arena_All_1
  have hl := hs.len
  have hm := hs.most1
  refine ldP_ok ((hP _ _ (hB _ h.left)).left.cell (i := 0) rfl) <| br_false rfl <| new_ok h fun k2 w1 h1 => ?_
  have h1' := hP _ _ (hB _ h1.right.left)
  obtain ⟨p, c5, q, d, h2⟩ := Ar.open_ (h1'.perm (sep_comm _ _))
  refine ldP_ok (h1'.left.cell (i := 0) rfl) <| nn_ok <| ldS_ok (h2.left.cell (i := 2) rfl) ?_
  have hT : Sat w₀ (own T_arena_spot_int_ 3 p s.sp.length c5 (s.sp.flatMap spotF)) w1 := h2.right.left
  refine app_ok spotsTy (Sat.own_full (t := T_arena_spot_int_) (sz := 3) (n := 0) h1 rfl (by decide)) hT.rd (fun u hu => ?_) (by simp only [maxLen]; omega) (by omega) fun p6 c6 w2 h3 => ?_
  · obtain ⟨y, _, hu⟩ := List.mem_flatMap.1 hu
    exact spotF_one y u hu
  rw [Nat.zero_add] at h3 ⊢
  have h3 : Sat w₀ (tab T_arena_spot_int_ 3 spotF p6 s.sp.length c6 s.sp * (B 0 * F)) w2 := h3
  refine ⟨fun n w m => 0 ≤ n ∧ n ≤ s.sp.length ∧ m = s.sp.length - n.toNat ∧ Sat w₀ (tab T_arena_spot_int_ 3 spotF p6 s.sp.length c6 s.sp * (B (liveFrom 0 (s.sp.take n.toNat)).length * F)) w, ⟨_, by omega, by omega, rfl, h3⟩, ?_⟩
  rintro u n w3 m ⟨h0, h1, rfl, h4⟩
  refine br_dec (fun hlt => ?_) (fun hge => .inl ?_)
  · obtain ⟨i, rfl⟩ : ∃ i : Nat, n = i := ⟨n.toNat, by omega⟩
    rw [Int.toNat_natCast] at h4
    have hi : i < s.sp.length := by omega
    obtain ⟨y, hy0⟩ : ∃ y, s.sp[i]? = some y := ⟨s.sp[i], by simp [hi]⟩
    have hy' : s.sp[(i : Int).toNat]? = some y := by rw [Int.toNat_natCast]; exact hy0
    have hgy := hs.g y (List.mem_of_getElem? hy0)
    have e1 : ((i : Int) + 1).toNat = i + 1 := by omega
    have e2 : s.sp.take (i + 1) = s.sp.take i ++ [y] := by rw [List.take_add_one, hy0]; rfl
    have e3 : (s.sp.take i).length = i := by rw [List.length_take]; omega
    refine tab_idx spotF_len h4.left (by decide) (by omega) hy' fun g hg => ldA_ok (vs := (spotF y).toArray) rfl (fun j hj => ?_) <| new_ok h4 fun k3 w4 h5 => stA_ok h5 rfl rfl (fun u hu => spotF_one y u hu) fun w5 h6 => ?_
    · rw [Int.toNat_natCast]
      exact (tab_cell spotF_len (j := j) (v := (spotF y)[j]'(by rw [spotF_len]; exact hj)) h4.left hg hy0 hj (by simp [spotF_len, hj])).trans (by simp [spotF_len, hj])
    have h6 := h6.drew
    have cl : ∀ (j : Nat) {v : Value}, (spotF y).toArray[j]? = some v → w5.drew.cell? ((⟨k3, 0, none⟩ : Addr).add j) = some v := by
      intro j v hv
      rw [add_mk, Nat.zero_add]
      exact h6.left.cell hv
    refine ldB_ok (cl 2 rfl) <| br_split (fun ht => ?_) (fun hf => ?_)
    · have ht : y.st = 1 := by simpa using ht
      refine ldI_ok (cl 1 rfl) <| ldI_ok (cl 0 rfl) <| call_pure (arena_handle_ok (i := i) (g := y.g) (by omega) (by omega) (by omega)) <| asI_ok ⟨cl 0 rfl, ?_⟩
      have hx : ((liveFrom 0 s.sp).map fun p => enc2 (pairOf p))[(liveFrom 0 (s.sp.take i)).length]? = some (enc2 (hd i y.g, y.x)) := by
        have e4 : s.sp = s.sp.take i ++ (y :: s.sp.drop (i + 1)) := by
          conv => lhs; rw [← List.take_append_drop i s.sp, List.drop_eq_getElem_cons hi]
          rw [List.getElem?_eq_getElem hi] at hy0
          cases hy0
          rfl
        have e5 : liveFrom 0 s.sp = liveFrom 0 (s.sp.take i) ++ (i, y) :: liveFrom (i + 1) (s.sp.drop (i + 1)) := by
          conv => lhs; rw [e4, liveFrom_more, e3, Nat.zero_add, liveFrom, if_pos ht]
        rw [List.getElem?_map, e5]
        simp [pairOf]
      refine callV_mono (hy _ _ hx (blk k3 (spotF y).toArray T_arena_spot_int_ * (tab T_arena_spot_int_ 3 spotF p6 s.sp.length c6 s.sp * F)) _ (h6.perm (by ac_rfl))) ?_
      rintro v w7 (⟨rfl, h7⟩ | ⟨rfl, h7⟩)
      · refine asB_ok <| br_false rfl <| arith_i64 (by omega) (by omega) ⟨_, ?_, by omega, by omega, rfl, ?_⟩
        · omega
        · rw [e1, e2, liveFrom_append, if_pos ht, List.length_append]
          exact (h7.perm (B := blk k3 (spotF y).toArray T_arena_spot_int_ * (tab T_arena_spot_int_ 3 spotF p6 s.sp.length c6 s.sp * (B ((liveFrom 0 (s.sp.take i)).length + 1) * F))) (by ac_rfl)).right
      · exact asB_ok <| br_true rfl <| .inr ((h7.perm (B := (blk k3 (spotF y).toArray T_arena_spot_int_ * tab T_arena_spot_int_ 3 spotF p6 s.sp.length c6 s.sp) * (Bx * F)) (by ac_rfl)).right)
    · have hf : y.st ≠ 1 := by simpa using hf
      refine arith_i64 (by omega) (by omega) ⟨_, by omega, by omega, by omega, rfl, ?_⟩
      rw [e1, e2, liveFrom_append, if_neg hf, List.append_nil]
      exact h6.right
  · have e : s.sp.take n.toNat = s.sp := by rw [List.take_of_length_le]; omega
    rw [e] at h4
    rw [List.length_map]
    exact h4.right
end Go.Proofs.Ytifcjbgkcgbefaa
