/- HeapInners: plain laws, the walk. No conditions. -/
import Derived.Test.YtgchemgnmijpdaaHC2
import Derived.Test.YtgchemgnmijpdaaHF1
set_option linter.unusedVariables false
set_option linter.unusedSimpArgs false
set_option maxRecDepth 100000
namespace Go.Proofs.Ytgchemgnmijpdaa
open Go.Sp Go.RowKit

/-- A whole at the first place, and its inners behind it. -/
def io (c : Int) (j m : Nat) : OM := if m = 0 then ⟨c, 0, 0, [], hds 1 (j + 1)⟩ else newO 1 (hd 0 1)
theorem io_zero (c : Int) (j : Nat) : io c j 0 = ⟨c, 0, 0, [], hds 1 (j + 1)⟩ := rfl
theorem io_succ (c : Int) (j m : Nat) (h : m ≠ 0) : io c j m = newO 1 (hd 0 1) := by rw [io, if_neg h]
theorem hd0_ne : hd 0 1 ≠ 0 := by decide
theorem hds1_snoc (j : Nat) : hds 1 (j + 1) ++ [hd (j + 1) 1] = hds 1 (j + 2) := by
  unfold hds
  rw [show j + 2 - 1 = (j + 1 - 1) + 1 by omega, List.range'_concat]
  simp [Nat.add_comm]
theorem hds0_cons (j : Nat) : hd 0 1 :: hds 1 (j + 1) = hds 0 (j + 1) := (hds_cons (by omega)).symm
theorem hds_nodup (i j : Nat) : (hds i j).Nodup := by
  unfold hds
  refine List.pairwise_map.2 ((List.pairwise_lt_range' (s := i) (n := j - i)).imp fun {a b} hab e => ?_)
  unfold hd at e
  omega
section
variable {j : Nat}
theorem inner_first : mkM (ch 40 (io 1 0) 0) 0 0 = (ch 40 (io 1 0) 1, hd 0 1, 0) := by
  rw [mkM, if_neg (by omega), if_pos rfl]
  have := put_ch (most := 40) (f := io 1 0) (i := 0) (o := newO (0 : Int).toNat 0) (by omega)
  rw [this]
  refine Prod.ext (ch_congr fun m hm => ?_) rfl
  have : m = 0 := by omega
  subst this
  rfl
theorem inner_make (hj : j + 1 < 40) : mkM (ch 40 (io 1 j) (j + 1)) 1 (hd 0 1) = (ch 40 (io 1 (j + 1)) (j + 2), hd (j + 1) 1, 0) := by
  have p1 : pay (ch 40 (io 1 j) (j + 1)) (hd 0 1) = some (io 1 j 0) := pay_ch (by omega) (by omega)
  have p2 := put_ch (most := 40) (f := io 1 j) (i := j + 1) (o := newO (1 : Int).toNat (hd 0 1)) (by omega)
  rw [mkM, if_neg (by omega), if_neg hd0_ne, p1]
  dsimp only
  rw [if_neg (show ¬ (io 1 j 0).ou ≠ 0 from fun q => q rfl), p2]
  dsimp only
  rw [if_pos rfl, up_ch (by omega) (by omega)]
  congr 1
  refine ch_congr fun m hm => ?_
  by_cases e : m = 0
  · subst e
    rw [if_pos rfl]
    show (⟨1, 0, 0, [], hds 1 (j + 1) ++ [hd (j + 1) 1]⟩ : OM) = ⟨1, 0, 0, [], hds 1 (j + 2)⟩
    rw [hds1_snoc]
  · rw [if_neg e, io_succ _ _ _ e]
    by_cases e2 : m = j + 1
    · rw [if_pos e2, io_succ _ _ _ e]; rfl
    · rw [if_neg e2, io_succ _ _ _ e]
theorem inner_no {c : Int} (hj : j < 40) {m : Nat} (hm : m ≤ j) (h0 : m ≠ 0) : mkM (ch 40 (io c j) (j + 1)) 1 (hd m 1) = (ch 40 (io c j) (j + 1), 0, 1) := by
  have p1 : pay (ch 40 (io c j) (j + 1)) (hd m 1) = some (io c j m) := pay_ch (by omega) (by omega)
  have hz : hd m 1 ≠ 0 := by unfold hd; omega
  rw [mkM, if_neg (by omega), if_neg hz, p1]
  dsimp only
  rw [io_succ _ _ _ h0, if_pos (show (newO 1 (hd 0 1)).ou ≠ 0 from hd0_ne)]
theorem inner_whole {c : Int} (hj : j < 40) {m : Nat} (hm : m ≤ j) : whole (ch 40 (io c j) (j + 1)) (hd m 1) = some (hd 0 1) := by
  have p1 : pay (ch 40 (io c j) (j + 1)) (hd m 1) = some (io c j m) := pay_ch (by omega) (by omega)
  rw [whole_some p1]
  by_cases e : m = 0
  · subst e; rw [if_neg (show ¬ (io c j 0).ou ≠ 0 from fun q => q rfl)]
  · rw [io_succ _ _ _ e, if_pos (show (newO 1 (hd 0 1)).ou ≠ 0 from hd0_ne)]; rfl
theorem inner_set {c d : Int} (hj : j < 40) : upA (ch 40 (io c j) (j + 1)) (hd 0 1) { io c j 0 with cn := d } = ch 40 (io d j) (j + 1) := by
  rw [up_ch (by omega) (by omega)]
  refine ch_congr fun m hm => ?_
  by_cases e : m = 0
  · subst e; rfl
  · rw [if_neg e, io_succ _ _ _ e, io_succ _ _ _ e]
theorem inner_up {c : Int} (hj : j < 40) {m : Nat} (hm : m ≤ j) (hc : c ≠ 99) : upM 99 (ch 40 (io c j) (j + 1)) (hd m 1) = (ch 40 (io (c + 1) j) (j + 1), c + 1, 0) := by
  have p1 : pay (ch 40 (io c j) (j + 1)) (hd 0 1) = some (io c j 0) := pay_ch (by omega) (by omega)
  rw [upM, inner_whole hj hm]
  dsimp only
  rw [p1]
  dsimp only
  rw [if_neg (show ¬ (io c j 0).cn = 99 from hc), inner_set hj]
  rfl
theorem inner_let {c : Int} (hj : j < 40) {m : Nat} (hm : m ≤ j) (hc : 0 < c) : dnM (ch 40 (io c j) (j + 1)) (hd m 1) = (0, ch 40 (io (c - 1) j) (j + 1), if c = 1 then [hd 0 1] else [], []) := by
  have p0 : pay (ch 40 (io c j) (j + 1)) (hd m 1) = some (io c j m) := pay_ch (by omega) (by omega)
  have p1 : pay (ch 40 (io c j) (j + 1)) (hd 0 1) = some (io c j 0) := pay_ch (by omega) (by omega)
  rw [dnM, p0]
  dsimp only
  rw [letM, if_pos rfl, inner_whole hj hm]
  dsimp only
  rw [p1]
  dsimp only
  rw [if_pos (show 0 < (io c j 0).cn from hc), inner_set hj]
  rfl
theorem inner_fall (hj : j < 40) : ∃ S', Fall (ch 40 (io 0 j) (j + 1)) [hd 0 1] [] [] (S', hds 0 (j + 1), []) ∧ ∀ h, pay S' h = none := by
  have hok : AOk (ch 40 (io 0 j) (j + 1)) := ch_ok (by decide) (by decide) (by omega)
  have p1 : pay (ch 40 (io 0 j) (j + 1)) (hd 0 1) = some (io 0 j 0) := pay_ch (by omega) (by omega)
  have hmem : ∀ h, h ∈ hd 0 1 :: hds 1 (j + 1) ↔ ∃ m, m < j + 1 ∧ h = hd m 1 := fun h => by
    rw [hds0_cons]
    unfold hds
    rw [List.mem_map]
    constructor
    · rintro ⟨m, hm, rfl⟩
      have := List.mem_range'_1.1 hm
      exact ⟨m, by omega, rfl⟩
    · rintro ⟨m, m1, rfl⟩
      exact ⟨m, List.mem_range'_1.2 (by omega), rfl⟩
  have hlink : ∀ x ∈ ([] ++ (hds 1 (j + 1)).flatMap (lnOf (ch 40 (io 0 j) (j + 1)))), x.1 = 0 ∨ x.1 = 2 := by
    intro x hx
    rw [List.nil_append] at hx
    obtain ⟨h, hh, hx⟩ := List.mem_flatMap.1 hx
    obtain ⟨m, hm, rfl⟩ := (hmem h).1 (.tail _ hh)
    have hm0 : m ≠ 0 := fun e => by
      subst e
      unfold hds at hh
      obtain ⟨q, hq, e⟩ := List.mem_map.1 hh
      have := List.mem_range'_1.1 hq
      unfold hd at e
      omega
    rw [lnOf, pay_ch (by omega) hm, io_succ _ _ _ hm0] at hx
    have : x = (0, 0) := List.eq_of_mem_replicate hx
    exact .inl (by rw [this])
  have hfil : ([] ++ (hds 1 (j + 1)).flatMap (lnOf (ch 40 (io 0 j) (j + 1)))).filter isF = [] := by
    rw [List.filter_eq_nil_iff]
    intro x hx
    rw [List.nil_append] at hx
    obtain ⟨h, hh, hx⟩ := List.mem_flatMap.1 hx
    obtain ⟨m, hm, rfl⟩ := (hmem h).1 (.tail _ hh)
    have hm0 : m ≠ 0 := fun e => by
      subst e
      unfold hds at hh
      obtain ⟨q, hq, e⟩ := List.mem_map.1 hh
      have := List.mem_range'_1.1 hq
      unfold hd at e
      omega
    rw [lnOf, pay_ch (by omega) hm, io_succ _ _ _ hm0] at hx
    have : x = (0, 0) := List.eq_of_mem_replicate hx
    rw [this]
    decide
  have e1 : lets (rmL (ch 40 (io 0 j) (j + 1)) (hd 0 1 :: (io 0 j 0).inn), [], []) ((io 0 j 0).ln ++ (io 0 j 0).inn.flatMap (lnOf (ch 40 (io 0 j) (j + 1)))) = (rmL (ch 40 (io 0 j) (j + 1)) (hd 0 1 :: (io 0 j 0).inn), [], []) := by
    show lets _ ([] ++ (hds 1 (j + 1)).flatMap (lnOf (ch 40 (io 0 j) (j + 1)))) = _
    rw [lets_far _ _ _ _ hlink, hfil]
    rfl
  refine ⟨rmL (ch 40 (io 0 j) (j + 1)) (hd 0 1 :: (io 0 j 0).inn), .step p1 e1.symm ?_, fun h => ?_⟩
  · show Fall _ [] ([] ++ hd 0 1 :: hds 1 (j + 1)) [] _
    rw [hds0_cons]
    exact .done
  · have hnd : (hd 0 1 :: hds 1 (j + 1)).Nodup := by
      rw [hds0_cons]
      exact hds_nodup _ _
    have hkey : ∀ (l : List Int) (S : HS), AOk S → l.Nodup → (∀ x ∈ l, ∃ o, pay S x = some o) → ∀ h, pay (rmL S l) h = if h ∈ l then none else pay S h := by
      intro l
      induction l with
      | nil => intro S _ _ _ h; simp [rmL]
      | cons x l ih =>
        intro S hS hn hl h
        rw [List.nodup_cons] at hn
        obtain ⟨o, ho⟩ := hl x (.head _)
        have := ih (rmA z0 S x) (hS.rm x) hn.2 (fun y hy => by
          obtain ⟨q, hq⟩ := hl y (.tail _ hy)
          exact ⟨q, by rw [pay_rm hS ho, if_neg (show ¬ y = x from fun e => hn.1 (e ▸ hy))]; exact hq⟩) h
        show pay (rmL (rmA z0 S x) l) h = _
        rw [this, pay_rm hS ho]
        by_cases e : h = x
        · simp [e]
        · simp [e]
    rw [show (hd 0 1 :: (io 0 j 0).inn) = hd 0 1 :: hds 1 (j + 1) from rfl, hkey _ _ hok hnd (fun x hx => by
      obtain ⟨m, hm, rfl⟩ := (hmem x).1 hx
      exact ⟨_, pay_ch (by omega) hm⟩)]
    split
    · rfl
    · rename_i hn
      cases hq : pay (ch 40 (io 0 j) (j + 1)) h with
      | none => rfl
      | some o =>
        obtain ⟨m, hm, e, _⟩ := (pay_ch_iff (by decide) (by decide) (by omega)).1 hq
        exact absurd ((hmem h).2 ⟨m, hm, e⟩) hn
end
end Go.Proofs.Ytgchemgnmijpdaa
