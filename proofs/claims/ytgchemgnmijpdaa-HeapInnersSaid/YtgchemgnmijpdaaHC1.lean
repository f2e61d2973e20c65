/- HeapChain: plain laws. No conditions. -/
import Derived.Test.YtgchemgnmijpdaaH10
set_option linter.unusedVariables false
set_option linter.unusedSimpArgs false
namespace Go.Proofs.Ytgchemgnmijpdaa
open Go.Sp Go.RowKit

/-! ### objects at the first places -/
def ch (most : Int) (f : Nat → OM) (i : Nat) : HS := ⟨most, 1, (List.range i).map fun j => ⟨f j, 1, 1⟩, [], i⟩
theorem ch_congr {most : Int} {f g : Nat → OM} {i : Nat} (h : ∀ j, j < i → f j = g j) : ch most f i = ch most g i := by
  unfold ch
  congr 1
  exact List.map_congr_left fun j hj => by rw [h j (List.mem_range.1 hj)]
section
variable {most : Int} {f : Nat → OM} {i j : Nat}
theorem ch_get (hj : j < i) : (ch most f i).sp[j]? = some ⟨f j, 1, 1⟩ := by simp [ch, hj]
theorem ch_ok (h0 : 1 ≤ most) (h1 : most ≤ 65536) (hi : (i : Int) ≤ most) : AOk (ch most f i) := by
  refine ⟨h0, h1, (by show (1 : Int) ≤ 1; decide), (by show (1 : Int) ≤ 4294967295; decide), by simpa [ch] using hi, fun y hy => ?_, fun x hx => (by cases hx), List.nodup_nil, ?_, by simp [ch]⟩
  · obtain ⟨j, _, rfl⟩ := List.mem_map.1 hy
    exact ⟨(by show (1 : Int) ≤ 1; decide), (by show (1 : Int) ≤ 4294967295; decide)⟩
  · show i = ((List.range i).map fun j => (⟨f j, 1, 1⟩ : Spot OM)).countP (fun y => y.st == 1)
    rw [List.countP_map, List.countP_eq_length.2 (by simp)]
    simp
theorem find_ch (hi : i ≤ 65536) (hj : j < i) : find (ch most f i) (hd j 1) = some j := by
  unfold find hd
  have e1 : ((1 : Int) * 4294967296 + j + 1) % 4294967296 = j + 1 := by omega
  have e2 : ((1 : Int) * 4294967296 + j + 1) / 4294967296 = 1 := by omega
  rw [e1, e2, if_neg (by omega), show ((j : Int) + 1 - 1).toNat = j by omega, ch_get hj]
  simp
theorem pay_ch (hi : i ≤ 65536) (hj : j < i) : pay (ch most f i) (hd j 1) = some (f j) := by
  unfold pay
  rw [find_ch hi hj, Option.bind_some, ch_get hj]
  rfl
theorem up_ch (hi : i ≤ 65536) (hj : j < i) {o : OM} : upA (ch most f i) (hd j 1) o = ch most (fun m => if m = j then o else f m) i := by
  unfold upA
  rw [find_ch hi hj]
  dsimp only
  rw [setX_eq (ch_get hj)]
  unfold ch
  congr 1
  apply List.ext_getElem?
  intro m
  rw [List.getElem?_set]
  by_cases e : j = m
  · subst e
    simp [hj]
  · rw [if_neg e]
    have e' : ¬ m = j := fun h => e h.symm
    by_cases hm : m < i
    · simp [hm, e']
    · simp [hm]
theorem put_ch (hi : (i : Int) < most) {o : OM} : put (ch most f i) o = (ch most (fun m => if m = i then o else f m) (i + 1), hd i 1, 0) := by
  have e : put (ch most f i) o = (⟨most, 1, (ch most f i).sp ++ [⟨o, 1, 1⟩], [], i + 1⟩, hd (ch most f i).sp.length 1, 0) := by
    have h0 : (ch most f i).fr.getLast? = none := rfl
    have h1 : ¬ ((ch most f i).sp.length : Int) = (ch most f i).most := by
      show ¬ ((((List.range i).map _).length : Nat) : Int) = most
      simp
      omega
    simp only [put, h0, h1, if_false]
    rfl
  rw [e]
  have el : (ch most f i).sp.length = i := by simp [ch]
  rw [el]
  congr 1
  show (⟨most, 1, _, [], i + 1⟩ : HS) = ⟨most, 1, _, [], i + 1⟩
  congr 1
  rw [List.range_succ, List.map_append]
  congr 1
  · show (List.range i).map _ = _
    apply List.map_congr_left
    intro j hj
    have : ¬ j = i := by have := List.mem_range.1 hj; omega
    simp [this]
  · simp
theorem pay_ch_iff (h0 : 1 ≤ most) (h1 : most ≤ 65536) (hi : (i : Int) ≤ most) {h : Int} {o : OM} : pay (ch most f i) h = some o ↔ ∃ j, j < i ∧ h = hd j 1 ∧ o = f j := by
  have hok : AOk (ch most f i) := ch_ok h0 h1 hi
  rw [pay_iff hok]
  constructor
  · rintro ⟨j, y, hy, _, rfl, rfl⟩
    have hj : j < i := by have := (List.getElem?_eq_some_iff.1 hy).1; simpa [ch] using this
    rw [ch_get hj] at hy
    cases hy
    exact ⟨j, hj, rfl, rfl⟩
  · rintro ⟨j, hj, rfl, rfl⟩
    exact ⟨j, _, ch_get hj, rfl, rfl, rfl⟩
end

/-! ### a chain -/
def lk (n m : Nat) : List (Int × Int) := [if m + 1 < n then (1, hd (m + 1) 1) else (0, 0)]
def co (c : Int) (n m : Nat) : OM := ⟨c, 0, 0, lk n m, []⟩
theorem new_co : newO 1 0 = ⟨1, 0, 0, [(0, 0)], []⟩ := rfl
theorem lk_last (n m : Nat) (h : n ≤ m + 1) : lk n m = [(0, 0)] := by rw [lk, if_neg (by omega)]
theorem whole_of {S : HS} {h : Int} {o : OM} (hp : pay S h = some o) (h0 : o.ou = 0) : whole S h = some h := by rw [whole_some hp, if_neg (by simp [h0])]
section
variable {i : Nat}
theorem chain_make (hi : i < 100) : mkM (ch 100 (co 1 i) i) 1 0 = (ch 100 (fun m => if m = i then newO 1 0 else co 1 i m) (i + 1), hd i 1, 0) := by
  rw [mkM, if_neg (by omega), if_pos rfl]
  exact put_ch (by omega)
theorem chain_put (h0 : 0 < i) (hi : i < 100) : putM 9 (ch 100 (fun m => if m = i then newO 1 0 else co 1 i m) (i + 1)) (hd (i - 1) 1) 0 (1, hd i 1) = (0, ch 100 (fun m => if m = i then co 2 (i + 1) i else co 1 (i + 1) m) (i + 1), [], []) := by
  obtain ⟨S, hS⟩ : ∃ S, S = ch 100 (fun m => if m = i then newO 1 0 else co 1 i m) (i + 1) := ⟨_, rfl⟩
  have p1 : pay S (hd (i - 1) 1) = some (co 1 i (i - 1)) := by rw [hS, pay_ch (by omega) (by omega), if_neg (by omega)]
  have p2 : pay S (hd i 1) = some (newO 1 0) := by rw [hS, pay_ch (by omega) (by omega), if_pos rfl]
  have l1 : (co 1 i (i - 1)).ln = [(0, 0)] := lk_last _ _ (by omega)
  have u1 : upM 9 S (hd i 1) = (upA S (hd i 1) { newO 1 0 with cn := 2 }, 2, 0) := by
    rw [upM, whole_of p2 rfl]
    dsimp only
    rw [p2]
    rfl
  have s1 : upA S (hd i 1) { newO 1 0 with cn := 2 } = ch 100 (fun m => if m = i then { newO 1 0 with cn := 2 } else co 1 i m) (i + 1) := by
    rw [hS, up_ch (by omega) (by omega)]
    exact ch_congr fun j hj => by dsimp only; split <;> rfl
  have p3 : pay (upA S (hd i 1) { newO 1 0 with cn := 2 }) (hd (i - 1) 1) = some (co 1 i (i - 1)) := by rw [s1, pay_ch (by omega) (by omega), if_neg (by omega)]
  rw [← hS, putM, p1]
  dsimp only
  rw [l1, if_neg (by simp [rightB]), if_pos rfl, u1, if_neg (by simp), layM, p3]
  dsimp only
  rw [l1, s1, up_ch (by omega) (by omega)]
  have e : letM (ch 100 (fun m => if m = i - 1 then { co 1 i (i - 1) with ln := [((0 : Int), (0 : Int))].set (0 : Int).toNat (1, hd i 1) } else if m = i then { newO 1 0 with cn := 2 } else co 1 i m) (i + 1)) [] [] ([((0 : Int), (0 : Int))].getD (0 : Int).toNat (0, 0)) =
      (ch 100 (fun m => if m = i - 1 then { co 1 i (i - 1) with ln := [((0 : Int), (0 : Int))].set (0 : Int).toNat (1, hd i 1) } else if m = i then { newO 1 0 with cn := 2 } else co 1 i m) (i + 1), [], []) := rfl
  rw [e]
  congr 2
  refine ch_congr fun j hj => ?_
  dsimp only
  by_cases e1 : j = i - 1
  · subst e1
    rw [if_pos rfl, if_neg (by omega)]
    unfold co
    congr 1
    show [(1, hd i 1)] = lk (i + 1) (i - 1)
    rw [lk, if_pos (by omega), show i - 1 + 1 = i by omega]
  · rw [if_neg e1]
    by_cases e2 : j = i
    · subst e2
      rw [if_pos rfl, if_pos rfl]
      unfold co
      rw [lk_last _ _ (by omega)]
      rfl
    · rw [if_neg e2, if_neg e2]
      unfold co lk
      rw [if_pos (by omega), if_pos (by omega)]
theorem chain_down (hi : i < 100) : dnM (ch 100 (fun m => if m = i then co 2 (i + 1) i else co 1 (i + 1) m) (i + 1)) (hd i 1) = (0, ch 100 (co 1 (i + 1)) (i + 1), [], []) := by
  have p1 : pay (ch 100 (fun m => if m = i then co 2 (i + 1) i else co 1 (i + 1) m) (i + 1)) (hd i 1) = some (co 2 (i + 1) i) := by rw [pay_ch (by omega) (by omega), if_pos rfl]
  rw [dnM, p1]
  dsimp only
  rw [letM, if_pos rfl, whole_of p1 rfl]
  dsimp only
  rw [p1]
  dsimp only
  rw [if_pos (show (0 : Int) < (co 2 (i + 1) i).cn from (show (0 : Int) < 2 by decide)), if_neg (show ¬ (co 2 (i + 1) i).cn = 1 from (show ¬ (2 : Int) = 1 by decide)), up_ch (by omega) (by omega)]
  congr 2
  refine ch_congr fun j hj => ?_
  split
  · rename_i e; subst e; rfl
  · rfl
theorem chain_first : ch 100 (fun m => if m = 0 then newO 1 0 else co 1 0 m) (0 + 1) = ch 100 (co 1 1) 1 := by
  refine ch_congr fun j hj => ?_
  have : j = 0 := by omega
  subst this
  rfl
end

/-! ### what falls of a chain -/
/-- The objects from a place on, of which the first one is held by nobody. -/
def Ch (S : HS) (n k j : Nat) (c : Int) : Prop := ∀ h o, pay S h = some o ↔ ∃ m, j ≤ m ∧ m < n ∧ h = hd m 1 ∧ o = co (if m = j then c else if m = k then 2 else 1) n m
theorem Ch.get {S : HS} {n k j : Nat} {c : Int} (h : Ch S n k j c) {m : Nat} (h1 : j ≤ m) (h2 : m < n) : pay S (hd m 1) = some (co (if m = j then c else if m = k then 2 else 1) n m) := (h _ _).2 ⟨m, h1, h2, rfl, rfl⟩
def hds (i j : Nat) : List Int := (List.range' i (j - i)).map fun m => hd m 1
theorem hds_cons {i j : Nat} (h : i < j) : hds i j = hd i 1 :: hds (i + 1) j := by
  unfold hds
  obtain ⟨d, hd'⟩ : ∃ d, j - i = d + 1 := ⟨j - i - 1, by omega⟩
  rw [hd', List.range'_succ, show j - (i + 1) = d by omega]
  rfl
theorem hds_nil {i j : Nat} (h : j ≤ i) : hds i j = [] := by
  unfold hds
  rw [show j - i = 0 by omega]
  rfl
theorem fall_chain {n k : Nat} (hk : k ≤ n) (hn : n ≤ 65536) : ∀ (d j : Nat) (S : HS) (gn : List Int), j + d = k → 0 < d → AOk S → Ch S n k j 0 → ∃ S', Fall S [hd j 1] gn [] (S', gn ++ hds j k, []) ∧ Ch S' n k k 1 ∧ AOk S' := by
  intro d
  induction d with
  | zero => intro j S gn _ h; omega
  | succ d ih =>
    intro j S gn hj _ hok hC
    have hp := hC.get (Nat.le_refl j) (by omega)
    rw [if_pos rfl] at hp
    have get : ∀ x, pay (rmA z0 S (hd j 1)) x = if x = hd j 1 then none else pay S x := fun x => pay_rm hok hp x
    have hrm : AOk (rmA z0 S (hd j 1)) := hok.rm _
    have er : rmL S (hd j 1 :: (co 0 n j).inn) = rmA z0 S (hd j 1) := rfl
    have eln : (co 0 n j).ln ++ (co 0 n j).inn.flatMap (lnOf S) = lk n j := by show lk n j ++ [].flatMap (lnOf S) = _; simp
    have hne : ∀ m, m ≤ n → m ≠ j → hd m 1 ≠ hd j 1 := fun m hm h e => h (by unfold hd at e; omega)
    by_cases hlast : j + 1 < n
    · have elk : lk n j = [(1, hd (j + 1) 1)] := by rw [lk, if_pos hlast]
      have hp2 : pay (rmA z0 S (hd j 1)) (hd (j + 1) 1) = some (co (if j + 1 = k then 2 else 1) n (j + 1)) := by
        rw [get, if_neg (hne _ (by omega) (by omega)), hC.get (by omega) (by omega), if_neg (by omega)]
      by_cases hjk : j + 1 = k
      · rw [if_pos hjk] at hp2
        have e1 : lets (rmA z0 S (hd j 1), [], []) (lk n j) = (upA (rmA z0 S (hd j 1)) (hd (j + 1) 1) (co 1 n (j + 1)), [], []) := by
          rw [elk]
          show letM _ [] [] (1, hd (j + 1) 1) = _
          rw [letM, if_pos rfl, whole_of hp2 rfl]
          dsimp only
          rw [hp2]
          rfl
        refine ⟨upA (rmA z0 S (hd j 1)) (hd (j + 1) 1) (co 1 n (j + 1)), .step hp (by rw [er, eln, e1]) ?_, fun h o => ?_, hrm.up⟩
        · dsimp only
          rw [hds_cons (by omega), hds_nil (by omega)]
          exact .done
        · rw [pay_up hrm hp2, get]
          constructor
          · intro h1
            split at h1
            · rename_i e
              cases h1
              exact ⟨j + 1, by omega, hlast, e, by rw [if_pos hjk]⟩
            · split at h1
              · cases h1
              · rename_i e1 e2
                obtain ⟨m, m1, m2, rfl, rfl⟩ := (hC h o).1 h1
                have : m ≠ j := fun e => e2 (by rw [e])
                have h3 : m ≠ j + 1 := fun e => e1 (by rw [e])
                exact ⟨m, by omega, m2, rfl, by rw [if_neg this, if_neg (by omega), if_neg (by omega)]⟩
          · rintro ⟨m, m1, m2, rfl, rfl⟩
            by_cases e : m = k
            · rw [if_pos (by rw [e, ← hjk]), if_pos e, e, ← hjk]
            · rw [if_neg (fun q => e (by unfold hd at q; omega)), if_neg (hne m (by omega) (by omega)), if_neg e, hC.get (by omega) m2, if_neg (by omega), if_neg e]
      · rw [if_neg hjk] at hp2
        have e1 : lets (rmA z0 S (hd j 1), [], []) (lk n j) = (upA (rmA z0 S (hd j 1)) (hd (j + 1) 1) (co 0 n (j + 1)), [hd (j + 1) 1], []) := by
          rw [elk]
          show letM _ [] [] (1, hd (j + 1) 1) = _
          rw [letM, if_pos rfl, whole_of hp2 rfl]
          dsimp only
          rw [hp2]
          rfl
        have hC2 : Ch (upA (rmA z0 S (hd j 1)) (hd (j + 1) 1) (co 0 n (j + 1))) n k (j + 1) 0 := by
          intro h o
          rw [pay_up hrm hp2, get]
          constructor
          · intro h1
            split at h1
            · rename_i e
              cases h1
              exact ⟨j + 1, by omega, hlast, e, by rw [if_pos rfl]⟩
            · split at h1
              · cases h1
              · rename_i e1 e2
                obtain ⟨m, m1, m2, rfl, rfl⟩ := (hC h o).1 h1
                have : m ≠ j := fun e => e2 (by rw [e])
                have h3 : m ≠ j + 1 := fun e => e1 (by rw [e])
                exact ⟨m, by omega, m2, rfl, by rw [if_neg this, if_neg h3]⟩
          · rintro ⟨m, m1, m2, rfl, rfl⟩
            by_cases e : m = j + 1
            · rw [if_pos (by rw [e]), if_pos e, e]
            · rw [if_neg (fun q => e (by unfold hd at q; omega)), if_neg (hne m (by omega) (by omega)), if_neg e, hC.get (by omega) m2, if_neg (by omega)]
        obtain ⟨S', f1, f2, f3⟩ := ih (j + 1) (upA (rmA z0 S (hd j 1)) (hd (j + 1) 1) (co 0 n (j + 1))) (gn ++ [hd j 1]) (by omega) (by omega) hrm.up hC2
        refine ⟨S', .step hp (by rw [er, eln, e1]) ?_, f2, f3⟩
        rw [hds_cons (by omega)]
        rw [List.append_assoc] at f1
        exact f1
    · have elk : lk n j = [(0, 0)] := lk_last _ _ (by omega)
      have e1 : lets (rmA z0 S (hd j 1), [], []) (lk n j) = (rmA z0 S (hd j 1), [], []) := by rw [elk]; rfl
      refine ⟨rmA z0 S (hd j 1), .step hp (by rw [er, eln, e1]) ?_, fun h o => ?_, hrm⟩
      · dsimp only
        rw [hds_cons (by omega), hds_nil (by omega)]
        exact .done
      · rw [get]
        constructor
        · intro h1
          split at h1
          · cases h1
          · rename_i e2
            obtain ⟨m, m1, m2, rfl, rfl⟩ := (hC h o).1 h1
            exact absurd (show hd m 1 = hd j 1 by rw [show m = j by omega]) e2
        · rintro ⟨m, m1, m2, rfl, rfl⟩
          omega

/-! ### all that live, in their order -/
theorem live_rise {α : Type} (ys : List (Spot α)) : ∀ i, (liveFrom i ys).Pairwise fun p q => p.1 < q.1 := by
  induction ys with
  | nil => intro i; exact List.Pairwise.nil
  | cons y ys ih =>
    intro i
    rw [liveFrom]
    split
    · refine List.Pairwise.cons (fun q hq => ?_) (ih (i + 1))
      obtain ⟨j, hj⟩ := List.mem_iff_getElem?.1 hq
      have := (liveFrom_get ys (i + 1) j q hj).1
      show i < q.1
      omega
    · exact ih (i + 1)
theorem sorted_eq : ∀ (l m : List Int), l.Pairwise (· < ·) → m.Pairwise (· < ·) → (∀ x, x ∈ l ↔ x ∈ m) → l = m
  | [], [], _, _, _ => rfl
  | [], y :: m, _, _, h => by have := (h y).2 (.head _); cases this
  | x :: l, [], _, _, h => by have := (h x).1 (.head _); cases this
  | x :: l, y :: m, hl, hm, h => by
    rw [List.pairwise_cons] at hl hm
    have hxy : x = y := by
      rcases List.mem_cons.1 ((h x).1 (.head _)) with e | e
      · exact e
      · rcases List.mem_cons.1 ((h y).2 (.head _)) with e2 | e2
        · exact e2.symm
        · have h1 := hm.1 x e
          have h2 := hl.1 y e2
          omega
    subst hxy
    rw [sorted_eq l m hl.2 hm.2 fun z => ?_]
    constructor
    · intro hz
      rcases List.mem_cons.1 ((h z).1 (.tail _ hz)) with e | e
      · have := hl.1 z hz; omega
      · exact e
    · intro hz
      rcases List.mem_cons.1 ((h z).2 (.tail _ hz)) with e | e
      · have := hm.1 z hz; omega
      · exact e
theorem all_hds {S : HS} (hok : AOk S) {i j : Nat} (hj : j ≤ 65536) (h : ∀ x, (∃ o, pay S x = some o) ↔ ∃ m, i ≤ m ∧ m < j ∧ x = hd m 1) : allFrom 0 S.sp = hds i j := by
  have hmem : ∀ x, x ∈ hds i j ↔ ∃ m, i ≤ m ∧ m < j ∧ x = hd m 1 := fun x => by
    unfold hds
    rw [List.mem_map]
    constructor
    · rintro ⟨m, hm, rfl⟩
      have := List.mem_range'_1.1 hm
      exact ⟨m, by omega, by omega, rfl⟩
    · rintro ⟨m, m1, m2, rfl⟩
      exact ⟨m, List.mem_range'_1.2 (by omega), rfl⟩
  refine sorted_eq _ _ ?_ ?_ fun x => by rw [← pay_all hok, h, hmem]
  · rw [allFrom_live, List.pairwise_map]
    refine (live_rise S.sp 0).imp_of_mem fun {p q} hp hq hlt => ?_
    have gg : ∀ p ∈ liveFrom 0 S.sp, p.2.g = 1 := fun p hp => by
      obtain ⟨h1, h2⟩ := live_get p hp
      have : ∃ o, pay S (hd p.1 p.2.g) = some o := ⟨p.2.x, (pay_iff hok).2 ⟨p.1, p.2, h1, h2, rfl, rfl⟩⟩
      obtain ⟨m, _, m2, e⟩ := (h _).1 this
      exact (hd_inj (place_lt hok h1) (by omega) e).2
    show hd p.1 p.2.g < hd q.1 q.2.g
    rw [gg p hp, gg q hq]
    unfold hd
    omega
  · unfold hds
    rw [List.pairwise_map]
    refine List.Pairwise.imp ?_ (List.pairwise_lt_range' (s := i) (n := j - i))
    intro a b hab
    show hd a 1 < hd b 1
    unfold hd
    omega
end Go.Proofs.Ytgchemgnmijpdaa
