/- HeapForeign: plain laws. No conditions. -/
import Derived.Test.YtgchemgnmijpdaaH10
set_option linter.unusedVariables false
set_option linter.unusedSimpArgs false
namespace Go.Proofs.Ytgchemgnmijpdaa
open Go.Sp Go.RowKit

def isF (x : Int × Int) : Bool := decide (x.1 = 2)
structure FO (laid : Int) (o : OM) : Prop where
  ou : o.ou = 0
  inn : o.inn = []
  cn : o.cn = 1
  len : o.ln.length = 3
  ln : ∀ x ∈ o.ln, x.1 = 0 ∨ (x.1 = 2 ∧ x.2 ≤ laid)
def fcnt (S : HS) (h : Int) : Nat := (lnOf S h).countP isF
/-- What is laid and was told, so far. -/
structure FI (S : HS) (L : List Int) (laid told : Int) : Prop where
  inv : HInv 9 S
  nd : L.Nodup
  mem : ∀ h, (∃ o, pay S h = some o) ↔ h ∈ L
  ob : ∀ h o, pay S h = some o → FO laid o
  sum : told + ((L.map (fcnt S)).sum : Nat) = laid
theorem FI.perm {S : HS} {L M : List Int} {laid told : Int} (h : FI S L laid told) (p : L.Perm M) : FI S M laid told :=
  ⟨h.inv, p.nodup h.nd, fun x => (h.mem x).trans p.mem_iff, h.ob, by rw [← (p.map (fcnt S)).sum_nat]; exact h.sum⟩
theorem lets_far : ∀ (l : List (Int × Int)) (S : HS) (wt fo : List Int), (∀ x ∈ l, x.1 = 0 ∨ x.1 = 2) → lets (S, wt, fo) l = (S, wt, fo ++ (l.filter isF).map (·.2))
  | [], S, wt, fo, _ => by simp [lets]
  | x :: l, S, wt, fo, h => by
    have e : lets (S, wt, fo) (x :: l) = lets (letM S wt fo x) l := rfl
    rw [e]
    rcases h x (.head _) with h0 | h2
    · have e1 : letM S wt fo x = (S, wt, fo) := by simp [letM, h0]
      rw [e1, lets_far l S wt fo fun y hy => h y (.tail _ hy)]
      simp [isF, h0]
    · have e1 : letM S wt fo x = (S, wt, fo ++ [x.2]) := by simp [letM, h2]
      rw [e1, lets_far l S wt _ fun y hy => h y (.tail _ hy)]
      simp [isF, h2]
theorem fcnt_some {S : HS} {h : Int} {o : OM} (hp : pay S h = some o) : fcnt S h = o.ln.countP isF := by rw [fcnt, lnOf, hp]
theorem FI.start : FI (s0 100) [] 0 0 := ⟨s0_inv (by decide) (by decide) (by decide) (by decide), List.nodup_nil, fun h => by simp [s0_pay], fun h o hp => (by rw [s0_pay] at hp; cases hp), by simp⟩
section
variable {S : HS} {L : List Int} {laid told : Int}
theorem sum_erase (f : Int → Nat) {h : Int} (hL : h ∈ L) : (L.map f).sum = f h + ((L.erase h).map f).sum := by
  have p := (List.perm_cons_erase hL).map f
  rw [p.sum_nat, List.map_cons, List.sum_cons]
theorem FI.down (hf : FI S L laid told) {h : Int} (hL : h ∈ L) : (dnM S h).1 = 0 ∧ ∃ r, fallF 1 (dnM S h).2.1 (dnM S h).2.2.1 [] (dnM S h).2.2.2 = some r ∧ r.2.1 = [h] ∧ FI r.1 (L.erase h) laid (told + r.2.2.length) := by
  obtain ⟨o, hp⟩ := (hf.mem h).2 hL
  have hO := hf.ob h o hp
  have hok := hf.inv.ok
  have hw : whole S h = some h := by rw [whole_some hp, if_neg (by simp [hO.ou])]
  have e1 : dnM S h = (0, upA S h { o with cn := 0 }, [h], []) := by
    rw [dnM, hp]
    simp [letM, hw, hp, hO.cn]
  have hp1 : pay (upA S h { o with cn := 0 }) h = some { o with cn := 0 } := by rw [pay_up hok hp, if_pos rfl]
  have e2 : rmL (upA S h { o with cn := 0 }) [h] = rmA z0 (upA S h { o with cn := 0 }) h := rfl
  have hl : ∀ x ∈ o.ln, x.1 = 0 ∨ x.1 = 2 := fun x hx => (hO.ln x hx).imp id And.left
  rw [e1]
  refine ⟨rfl, (rmA z0 (upA S h { o with cn := 0 }) h, [h], (o.ln.filter isF).map (·.2)), ?_, rfl, ?_⟩
  · generalize upA S h { o with cn := 0 } = S1 at hp1 e2
    dsimp only
    rw [fallF, hp1]
    dsimp only
    rw [hO.inn, e2, List.flatMap_nil, List.append_nil, lets_far _ _ _ _ hl, List.nil_append]
    rfl
  · have hr := hf.inv.rng h o hp
    have hu : HInv 9 (upA S h { o with cn := 0 }) := hf.inv.up hp ⟨(by show (0 : Int) ≤ 0 ∧ (0 : Int) ≤ 9; decide), hr.ou, hr.va, hr.len, hr.ln⟩ rfl rfl
    have hg : HInv 9 (rmA z0 (upA S h { o with cn := 0 }) h) := by
      have := hu.gone hp1 hO.ou
      have e3 : rmL (upA S h { o with cn := 0 }) (h :: ({ o with cn := 0 } : OM).inn) = rmA z0 (upA S h { o with cn := 0 }) h := by
        show rmL _ (h :: o.inn) = _
        rw [hO.inn]
        rfl
      rwa [e3] at this
    have get : ∀ x, pay (rmA z0 (upA S h { o with cn := 0 }) h) x = if x = h then none else pay S x := fun x => by
      rw [pay_rm hu.ok hp1, pay_up hok hp]
      split <;> rfl
    refine ⟨hg, hf.nd.erase h, fun x => ?_, fun x y hy => ?_, ?_⟩
    · rw [get, hf.nd.mem_erase_iff]
      by_cases e : x = h
      · simp [e]
      · simp only [if_neg e, ne_eq, e, not_false_eq_true, true_and]
        exact hf.mem x
    · rw [get] at hy
      split at hy
      · cases hy
      · exact hf.ob x y hy
    · have hs := hf.sum
      rw [sum_erase (fcnt S) hL, fcnt_some hp] at hs
      have e4 : (L.erase h).map (fcnt (rmA z0 (upA S h { o with cn := 0 }) h)) = (L.erase h).map (fcnt S) := by
        apply List.map_congr_left
        intro x hx
        have hne : x ≠ h := ((hf.nd.mem_erase_iff).1 hx).1
        unfold fcnt lnOf
        rw [get, if_neg hne]
      rw [e4, List.length_map, ← List.countP_eq_length_filter]
      omega
theorem FI.lay (hf : FI S L laid told) {h : Int} (hL : h ∈ L) {slot : Int} (h0 : 0 ≤ slot) (h3 : slot < 3) (hl0 : 0 ≤ laid) (hl : laid < 1000000) :
    (putM 9 S h slot (2, laid + 1)).1 = 0 ∧ (putM 9 S h slot (2, laid + 1)).2.2.1 = [] ∧ (putM 9 S h slot (2, laid + 1)).2.2.2.length ≤ 1 ∧ (∀ n ∈ (putM 9 S h slot (2, laid + 1)).2.2.2, n ≤ laid) ∧
      FI (putM 9 S h slot (2, laid + 1)).2.1 L (laid + 1) (told + (putM 9 S h slot (2, laid + 1)).2.2.2.length) := by
  obtain ⟨o, hp⟩ := (hf.mem h).2 hL
  have hO := hf.ob h o hp
  have hok := hf.inv.ok
  obtain ⟨n, rfl⟩ : ∃ n : Nat, slot = n := ⟨slot.toNat, by omega⟩
  have hn : n < o.ln.length := by rw [hO.len]; omega
  obtain ⟨y, hy⟩ : ∃ y, o.ln[n]? = some y := ⟨_, List.getElem?_eq_getElem hn⟩
  have hyd : o.ln.getD n (0, 0) = y := by simp [List.getD, hy]
  have hym := hO.ln y (List.mem_of_getElem? hy)
  have e1 : putM 9 S h n (2, laid + 1) = (0, letM (upA S h { o with ln := o.ln.set n (2, laid + 1) }) [] [] y) := by
    rw [putM, hp]
    dsimp only
    rw [if_neg (by simp [rightB]; omega), if_neg (by simp)]
    rw [layM, hp, Int.toNat_natCast]
    dsimp only
    rw [hyd]
  have hu : HInv 9 (upA S h { o with ln := o.ln.set n (2, laid + 1) }) := hf.inv.slot hp ⟨(show -9223372036854775808 ≤ (2 : Int) ∧ (2 : Int) ≤ 9223372036854775807 by decide), by dsimp only; omega⟩
  have e2 : letM (upA S h { o with ln := o.ln.set n (2, laid + 1) }) [] [] y = (upA S h { o with ln := o.ln.set n (2, laid + 1) }, [], if isF y then [y.2] else []) := by
    rcases hym with q | ⟨q, _⟩
    · simp [letM, q, isF]
    · simp [letM, q, isF]
  rw [e1, e2]
  refine ⟨rfl, rfl, ?_, ?_, hu, hf.nd, fun x => ?_, fun x z hz => ?_, ?_⟩
  · dsimp only; split <;> simp
  · dsimp only
    intro m hm
    rcases hym with q | ⟨q, q2⟩
    · simp [isF, q] at hm
    · simp [isF, q] at hm; omega
  · dsimp only
    rw [pay_up hok hp]
    by_cases e : x = h
    · subst e; simp [hL]
    · rw [if_neg e]; exact hf.mem x
  · dsimp only at hz
    rw [pay_up hok hp] at hz
    split at hz
    · cases hz
      refine ⟨hO.ou, hO.inn, hO.cn, by simpa using hO.len, fun x hx => ?_⟩
      rcases List.mem_or_eq_of_mem_set hx with hx | rfl
      · exact (hO.ln x hx).imp id fun q => ⟨q.1, by omega⟩
      · exact .inr ⟨rfl, by dsimp only; omega⟩
    · have hO' := hf.ob x z hz
      exact ⟨hO'.ou, hO'.inn, hO'.cn, hO'.len, fun x hx => (hO'.ln x hx).imp id fun q => ⟨q.1, by omega⟩⟩
  · dsimp only
    have hs := hf.sum
    have hc := count_set (P := isF) (y' := ((2 : Int), laid + 1)) hy
    have ht : isF (2, laid + 1) = true := rfl
    rw [if_pos ht] at hc
    rw [sum_erase _ hL, fcnt_some hp] at hs
    have ep : pay (upA S h { o with ln := o.ln.set n (2, laid + 1) }) h = some { o with ln := o.ln.set n (2, laid + 1) } := by rw [pay_up hok hp, if_pos rfl]
    rw [sum_erase (fcnt _) hL, fcnt_some ep]
    have e4 : (L.erase h).map (fcnt (upA S h { o with ln := o.ln.set n (2, laid + 1) })) = (L.erase h).map (fcnt S) := by
      apply List.map_congr_left
      intro x hx
      have hne : x ≠ h := ((hf.nd.mem_erase_iff).1 hx).1
      unfold fcnt lnOf
      rw [pay_up hok hp, if_neg hne]
    rw [e4]
    dsimp only
    split
    · rename_i hF
      rw [if_pos hF] at hc
      simp only [List.length_singleton]
      omega
    · rename_i hF
      rw [if_neg hF] at hc
      simp only [List.length_nil]
      omega
theorem FI.make (hf : FI S L laid told) (he : (mkM S 3 0).2.2 = 0) : FI (mkM S 3 0).1 (L ++ [(mkM S 3 0).2.1]) laid told := by
  have e1 : mkM S 3 0 = put S (newO 3 0) := by rw [mkM, if_neg (by omega), if_pos rfl]; rfl
  have hi := (mkM_inv hf.inv (slots := 3) (outer := 0) (by decide)).1
  rw [e1] at he hi ⊢
  have hok := hf.inv.ok
  have hfr := pay_fresh hok he
  have hnL : (put S (newO 3 0)).2.1 ∉ L := fun hm => by
    obtain ⟨o, ho⟩ := (hf.mem _).2 hm
    rw [hfr] at ho
    cases ho
  refine ⟨hi, ?_, fun x => ?_, fun x y hy => ?_, ?_⟩
  · refine List.nodup_append.2 ⟨hf.nd, by simp, fun a ha b hb e => ?_⟩
    rw [List.mem_singleton] at hb
    exact hnL (hb ▸ e ▸ ha)
  · rw [pay_put hok he, List.mem_append, List.mem_singleton]
    by_cases e : x = (put S (newO 3 0)).2.1
    · simp [e]
    · rw [if_neg e]; simp only [e, or_false]; exact hf.mem x
  · rw [pay_put hok he] at hy
    split at hy
    · cases hy
      refine ⟨rfl, rfl, rfl, rfl, fun x hx => ?_⟩
      have : x = (0, 0) := List.eq_of_mem_replicate hx
      exact .inl (by rw [this])
    · exact hf.ob x y hy
  · have hs := hf.sum
    rw [List.map_append, List.sum_append]
    have ep : pay (put S (newO 3 0)).1 (put S (newO 3 0)).2.1 = some (newO 3 0) := by rw [pay_put hok he, if_pos rfl]
    have e4 : L.map (fcnt (put S (newO 3 0)).1) = L.map (fcnt S) := by
      apply List.map_congr_left
      intro x hx
      have hne : x ≠ (put S (newO 3 0)).2.1 := fun e => hnL (e ▸ hx)
      unfold fcnt lnOf
      rw [pay_put hok he, if_neg hne]
    rw [e4]
    simp only [List.map_cons, List.map_nil, List.sum_cons, List.sum_nil, fcnt_some ep]
    show told + (((L.map (fcnt S)).sum + (0 + 0) : Nat) : Int) = laid
    omega
theorem mkM_fail {slots : Int} (h : AOk S) (h8 : 0 ≤ slots ∧ slots ≤ 8) (he : (mkM S slots 0).2.2 ≠ 0) : (mkM S slots 0).1 = S := by
  have e1 : mkM S slots 0 = put S (newO slots.toNat 0) := by rw [mkM, if_neg (by omega), if_pos rfl]
  rw [e1] at he ⊢
  rw [put_same h he]
/-- The last one is laid where another one was taken out. -/
theorem swap_perm {L : List Int} {k : Nat} {h z : Int} (hh : L[k]? = some h) (hz : L.getLast? = some z) : (L.erase h).Perm ((L.set k z).dropLast) := by
  have hk := (List.getElem?_eq_some_iff.1 hh).1
  rcases List.eq_nil_or_concat L with rfl | ⟨M, y, rfl⟩
  · simp at hk
  rw [List.concat_eq_append] at *
  have hy : y = z := by simpa using hz
  subst hy
  rw [List.length_append, List.length_singleton] at hk
  by_cases e : k = M.length
  · subst e
    have : y = h := by simpa using hh
    subst this
    have e1 : (M ++ [y]).set M.length y = M ++ [y] := by simp [List.set_append]
    rw [e1, List.dropLast_concat]
    have p : (M ++ [y]).Perm (y :: M) := List.perm_append_singleton y M
    have := p.erase y
    rwa [List.erase_cons_head] at this
  · have hkM : k < M.length := by omega
    rw [List.getElem?_append_left hkM] at hh
    have e1 : (M ++ [y]).set k y = M.set k y ++ [y] := by rw [List.set_append, if_pos hkM]
    rw [e1, List.dropLast_concat]
    have hM : M = M.take k ++ h :: M.drop (k + 1) := by
      conv => lhs; rw [← List.take_append_drop k M, List.drop_eq_getElem_cons hkM]
      rw [List.getElem?_eq_getElem hkM] at hh
      rw [Option.some.inj hh]
    have e2 : M.set k y = M.take k ++ y :: M.drop (k + 1) := by rw [List.set_eq_take_append_cons_drop, if_pos hkM]
    rw [e2]
    have p1 : (M ++ [y]).Perm (h :: (M.take k ++ y :: M.drop (k + 1))) := by
      have q1 : (M.take k ++ h :: M.drop (k + 1)).Perm (h :: (M.take k ++ M.drop (k + 1))) := List.perm_middle
      have q2 : (M.take k ++ y :: M.drop (k + 1)).Perm (y :: (M.take k ++ M.drop (k + 1))) := List.perm_middle
      refine (List.perm_append_singleton y M).trans ?_
      conv => lhs; rw [hM]
      exact ((q1.cons y).trans (List.Perm.swap h y _)).trans (q2.symm.cons h)
    have := p1.erase h
    rwa [List.erase_cons_head] at this
end
end Go.Proofs.Ytgchemgnmijpdaa
