/- Heaps: what making, laying, removing do; plain laws. No conditions. -/
import Derived.Test.YtgchemgnmijpdaaH1
set_option linter.unusedVariables false
set_option linter.unusedSimpArgs false
namespace Go.Proofs.Ytgchemgnmijpdaa
open Go.Sp Go.RowKit

/-! ### making -/
def newO (slots : Nat) (outer : Int) : OM := ⟨1, outer, 0, List.replicate slots (0, 0), []⟩
def mkM (S : HS) (slots outer : Int) : HS × Int × Int :=
  if slots < 0 ∨ 8 < slots then (S, 0, 1) else
  if outer = 0 then put S (newO slots.toNat 0) else
  match pay S outer with
  | none => (S, 0, 2)
  | some o => if o.ou ≠ 0 then (S, 0, 1) else
    if (put S (newO slots.toNat outer)).2.2 = 0 then (upA (put S (newO slots.toNat outer)).1 outer { o with inn := o.inn ++ [(put S (newO slots.toNat outer)).2.1] }, (put S (newO slots.toNat outer)).2.1, 0) else (S, 0, 3)
section
variable {top : Int} {S : HS}
theorem newO_ok (ht : 1 ≤ top) {slots : Nat} {outer : Int} (h8 : slots ≤ 8) (h0 : 0 ≤ outer ∧ outer ≤ 18446744073709551615) : OmOk top (newO slots outer) :=
  ⟨(by show (0 : Int) ≤ 1 ∧ (1 : Int) ≤ top; omega), h0, (show (-9223372036854775808 : Int) ≤ 0 ∧ (0 : Int) ≤ 9223372036854775807 by decide), by simpa [newO] using h8, fun x hx => by
    have hx : x = (0, 0) := List.eq_of_mem_replicate hx
    subst hx
    exact ⟨(show (-9223372036854775808 : Int) ≤ 0 ∧ (0 : Int) ≤ 9223372036854775807 by decide), (show (0 : Int) ≤ 0 ∧ (0 : Int) ≤ 18446744073709551615 by decide)⟩⟩
theorem HBase.put (hs : HBase top S) {o : OM} (ho : OmOk top o) (he : (put S o).2.2 = 0) : HBase top (put S o).1 :=
  ⟨hs.ok.put o, by rw [put_most hs.ok]; exact hs.most, hs.tp, fun x y hy => by
    rw [pay_put hs.ok he] at hy
    split at hy
    · cases hy; exact ho
    · exact hs.rng x y hy⟩
theorem HInv.put0 (hs : HInv top S) {o : OM} (ho : OmOk top o) (h0 : o.ou = 0) (hi : o.inn = []) (he : (put S o).2.2 = 0) : HInv top (put S o).1 := by
  have hfr := pay_fresh hs.ok he
  refine ⟨hs.toHBase.put ho he, fun x y hy hne => ?_, fun x y hy i him => ?_, fun x y hy => ?_⟩
  · rw [pay_put hs.ok he] at hy
    split at hy
    · cases hy; exact absurd h0 hne
    · obtain ⟨v, h1, h2, h3⟩ := hs.out x y hy hne
      refine ⟨v, ?_, h2, h3⟩
      rw [pay_put hs.ok he, if_neg]
      · exact h1
      · intro e; rw [e, hfr] at h1; cases h1
  · rw [pay_put hs.ok he] at hy
    split at hy
    · cases hy; rw [hi] at him; cases him
    · obtain ⟨v, h1, h2⟩ := hs.inn x y hy i him
      refine ⟨v, ?_, h2⟩
      rw [pay_put hs.ok he, if_neg]
      · exact h1
      · intro e; rw [e, hfr] at h1; cases h1
  · rw [pay_put hs.ok he] at hy
    split at hy
    · cases hy; rw [hi]; exact List.nodup_nil
    · exact hs.nd x y hy
/-- An inner is made. -/
theorem HInv.putI (hs : HInv top S) {w : Int} {o n : OM} (hp : pay S w = some o) (ho : o.ou = 0) (hn : OmOk top n) (hnw : n.ou = w) (hi : n.inn = []) (he : (put S n).2.2 = 0) : HInv top (upA (put S n).1 w { o with inn := o.inn ++ [(put S n).2.1] }) := by
  have hfr := pay_fresh hs.ok he
  have hb := hs.toHBase.put hn he
  obtain ⟨h, hh⟩ : ∃ h, h = (put S n).2.1 := ⟨_, rfl⟩
  rw [← hh] at hfr ⊢
  have hwh : w ≠ h := fun e => by rw [e, hfr] at hp; cases hp
  have hpw : pay (put S n).1 w = some o := by rw [pay_put hs.ok he, ← hh, if_neg hwh]; exact hp
  have hro := hs.rng w o hp
  have ho' : OmOk top { o with inn := o.inn ++ [h] } := ⟨hro.cn, hro.ou, hro.va, hro.len, hro.ln⟩
  have get : ∀ x, pay (upA (put S n).1 w { o with inn := o.inn ++ [h] }) x = if x = w then some { o with inn := o.inn ++ [h] } else if x = h then some n else pay S x := fun x => by
    rw [pay_up hb.ok hpw, pay_put hs.ok he, ← hh]
  have hw0 := pay_pos hs.ok hp
  refine ⟨hb.up hpw ho', fun x y hy hne => ?_, fun x y hy i him => ?_, fun x y hy => ?_⟩
  · rw [get] at hy
    split at hy
    · cases hy; exact absurd ho hne
    · split at hy
      · rename_i hxh
        cases hy
        refine ⟨{ o with inn := o.inn ++ [h] }, by rw [get, hnw, if_pos rfl], ho, ?_⟩
        show x ∈ o.inn ++ [h]
        rw [hxh]
        simp
      · obtain ⟨v, h1, h2, h3⟩ := hs.out x y hy hne
        by_cases e : y.ou = w
        · rw [e, hp] at h1
          cases h1
          exact ⟨{ o with inn := o.inn ++ [h] }, by rw [get, e, if_pos rfl], ho, List.mem_append.2 (.inl h3)⟩
        · refine ⟨v, ?_, h2, h3⟩
          rw [get, if_neg e, if_neg]
          · exact h1
          · intro e2; rw [e2, hfr] at h1; cases h1
  · rw [get] at hy
    split at hy
    · rename_i hxw
      cases hy
      have him : i ∈ o.inn ++ [h] := him
      rcases List.mem_append.1 him with him | him
      · obtain ⟨v, h1, h2⟩ := hs.inn w o hp i him
        refine ⟨v, ?_, by rw [hxw]; exact h2⟩
        rw [get, if_neg, if_neg]
        · exact h1
        · intro e2; rw [e2, hfr] at h1; cases h1
        · intro e; rw [e, hp] at h1; cases h1; exact hw0 (by omega)
      · rw [List.mem_singleton] at him
        subst him
        refine ⟨n, ?_, by rw [hxw]; exact hnw⟩
        rw [get, if_neg (Ne.symm hwh), if_pos rfl]
    · rename_i hxw
      split at hy
      · cases hy; rw [hi] at him; cases him
      · obtain ⟨v, h1, h2⟩ := hs.inn x y hy i him
        refine ⟨v, ?_, h2⟩
        rw [get, if_neg, if_neg]
        · exact h1
        · intro e2; rw [e2, hfr] at h1; cases h1
        · intro e
          rw [e, hp] at h1
          cases h1
          exact pay_pos hs.ok hy (by omega)
  · rw [get] at hy
    split at hy
    · cases hy
      refine List.nodup_append.2 ⟨hs.nd w o hp, by simp, fun a ha b hb e => ?_⟩
      rw [List.mem_singleton] at hb
      obtain ⟨v, h1, _⟩ := hs.inn w o hp a ha
      rw [e, hb, hfr] at h1
      cases h1
    · split at hy
      · cases hy; rw [hi]; exact List.nodup_nil
      · exact hs.nd x y hy
theorem mkM_inv (hs : HInv top S) {slots outer : Int} (h0 : 0 ≤ outer ∧ outer ≤ 18446744073709551615) : HInv top (mkM S slots outer).1 ∧ (mkM S slots outer).1.most = S.most := by
  unfold mkM
  split
  · exact ⟨hs, rfl⟩
  · rename_i hsl
    split
    · rename_i hz
      by_cases he : (put S (newO slots.toNat 0)).2.2 = 0
      · exact ⟨hs.put0 (newO_ok hs.tp.1 (by omega) (by decide)) rfl rfl he, put_most hs.ok⟩
      · rw [put_same hs.ok he]; exact ⟨hs, rfl⟩
    · split
      · exact ⟨hs, rfl⟩
      · rename_i o hp
        split
        · exact ⟨hs, rfl⟩
        · rename_i ho
          split
          · rename_i he
            exact ⟨hs.putI hp (by simpa using ho) (newO_ok hs.tp.1 (by omega) h0) rfl rfl he, by rw [up_most]; exact put_most hs.ok⟩
          · exact ⟨hs, rfl⟩
end

/-! ### letting go, laying, removing: what is refused, what falls -/
abbrev Res := Int × HS × List Int × List Int
def dnM (S : HS) (h : Int) : Res := match pay S h with | none => (2, S, [], []) | some _ => (0, letM S [] [] (1, h))
def rightB (x : Int × Int) : Bool := (decide (x.1 = 0) && decide (x.2 = 0)) || decide (x.1 = 1) || decide (x.1 = 2)
def upM (top : Int) (S : HS) (h : Int) : HS × Int × Int :=
  match whole S h with
  | none => (S, 0, 2)
  | some x => match pay S x with
    | none => (S, 0, 2)
    | some o => if o.cn = top then (S, 0, 4) else (upA S x { o with cn := o.cn + 1 }, o.cn + 1, 0)
def layM (S : HS) (h : Int) (slot : Nat) (x : Int × Int) : HS × List Int × List Int :=
  match pay S h with
  | none => (S, [], [])
  | some o => letM (upA S h { o with ln := o.ln.set slot x }) [] [] (o.ln.getD slot (0, 0))
def putM (top : Int) (S : HS) (h slot : Int) (x : Int × Int) : Res :=
  match pay S h with
  | none => (2, S, [], [])
  | some o => if slot < 0 ∨ (o.ln.length : Int) ≤ slot ∨ rightB x = false then (1, S, [], []) else
    if x.1 = 1 then (if (upM top S x.2).2.2 ≠ 0 then ((upM top S x.2).2.2, S, [], []) else (0, layM (upM top S x.2).1 h slot.toNat x)) else (0, layM S h slot.toNat x)
def zeroL (S : HS) (l : List Int) : HS := l.foldl (fun S h => match pay S h with | some o => upA S h { o with cn := 0 } | none => S) S
def remM (S : HS) (l : List Int) : Res :=
  if l.any (fun h => (pay S h).isNone) = true then (2, S, [], []) else
  if ¬ l.Nodup ∨ ∃ h ∈ l, ∃ o, pay S h = some o ∧ o.ou ≠ 0 then (1, S, [], []) else (0, zeroL S l, l, [])
def stM (S : HS) (h n : Int) : HS × Int := match pay S h with | none => (S, 2) | some o => (upA S h { o with va := n }, 0)
section
variable {top : Int} {S : HS}
theorem upM_inv {h : Int} (hs : HInv top S) : HInv top (upM top S h).1 ∧ (upM top S h).1.cnt = S.cnt ∧ (upM top S h).1.most = S.most := by
  unfold upM
  split
  · exact ⟨hs, rfl, rfl⟩
  · split
    · exact ⟨hs, rfl, rfl⟩
    · rename_i o hp
      split
      · exact ⟨hs, rfl, rfl⟩
      · have hr := hs.rng _ o hp
        have := hs.tp
        exact ⟨hs.up hp ⟨by have := hr.cn; dsimp only; omega, hr.ou, hr.va, hr.len, hr.ln⟩ rfl rfl, up_cnt _ _ _, up_most _ _ _⟩
theorem upM_pay {h x : Int} {o : OM} (hs : AOk S) (hp : pay S x = some o) : ∃ o', pay (upM top S h).1 x = some o' ∧ o'.ln = o.ln ∧ o'.ou = o.ou ∧ o'.inn = o.inn ∧ o'.va = o.va := by
  unfold upM
  split
  · exact ⟨o, hp, rfl, rfl, rfl, rfl⟩
  · split
    · exact ⟨o, hp, rfl, rfl, rfl, rfl⟩
    · rename_i y hy
      split
      · exact ⟨o, hp, rfl, rfl, rfl, rfl⟩
      · rw [pay_up hs hy]
        split
        · rename_i e
          rw [← e, hp] at hy
          cases hy
          exact ⟨_, rfl, rfl, rfl, rfl, rfl⟩
        · exact ⟨o, hp, rfl, rfl, rfl, rfl⟩
theorem upM_none {h x : Int} (hs : AOk S) (hp : pay S x = none) : pay (upM top S h).1 x = none := by
  unfold upM
  split
  · exact hp
  · split
    · exact hp
    · rename_i y hy
      split
      · exact hp
      · rw [pay_up hs hy]
        split
        · rename_i e; rw [← e, hp] at hy; cases hy
        · exact hp
/-- A slot turned. -/
theorem HInv.slot (hs : HInv top S) {h : Int} {o : OM} (hp : pay S h = some o) {i : Nat} {x : Int × Int} (hx : LinkOk x) : HInv top (upA S h { o with ln := o.ln.set i x }) := by
  have hr := hs.rng h o hp
  exact hs.up hp ⟨hr.cn, hr.ou, hr.va, by simpa using hr.len, fun y hy => (List.mem_or_eq_of_mem_set hy).elim (hr.ln y) (fun e => e ▸ hx)⟩ rfl rfl
theorem layM_inv {h : Int} {i : Nat} {x : Int × Int} (hs : HInv top S) (hx : LinkOk x) :
    HInv top (layM S h i x).1 ∧ WtOk (layM S h i x).1 (layM S h i x).2.1 ∧ (layM S h i x).1.cnt = S.cnt ∧ (layM S h i x).1.most = S.most ∧ (layM S h i x).2.1.length + (layM S h i x).2.2.length ≤ 1 := by
  unfold layM
  split
  · exact ⟨hs, WtOk.nil, rfl, rfl, by simp⟩
  · rename_i o hp
    obtain ⟨h1, h2, h3, h4, h5⟩ := letM_inv (fo := []) (o.ln.getD i (0, 0)) (hs.slot hp (i := i) hx) WtOk.nil
    exact ⟨h1, h2, h3.trans (up_cnt _ _ _), h4.trans (up_most _ _ _), by simpa using h5⟩
theorem zeroL_snoc (S : HS) (l : List Int) (h : Int) : zeroL S (l ++ [h]) = match pay (zeroL S l) h with | some o => upA (zeroL S l) h { o with cn := 0 } | none => zeroL S l := by simp [zeroL]
theorem zeroL_ok : ∀ (l : List Int) {S : HS}, HInv top S → HInv top (zeroL S l) ∧ (zeroL S l).cnt = S.cnt ∧ (zeroL S l).most = S.most ∧ ∀ h, pay (zeroL S l) h = (pay S h).map fun o => if h ∈ l then { o with cn := 0 } else o := by
  intro l
  induction l with
  | nil => intro S hs; exact ⟨hs, rfl, rfl, fun h => by cases hp : pay S h <;> simp [zeroL, hp]⟩
  | cons x l ih =>
    intro S hs
    cases hp : pay S x with
    | none =>
      have e : zeroL S (x :: l) = zeroL S l := by simp [zeroL, hp]
      obtain ⟨h1, h2, h3, h4⟩ := ih hs
      rw [e]
      refine ⟨h1, h2, h3, fun h => ?_⟩
      rw [h4]
      cases hq : pay S h with
      | none => rfl
      | some o =>
        have : h ≠ x := fun e => by rw [e, hp] at hq; cases hq
        simp [this]
    | some o =>
      have e : zeroL S (x :: l) = zeroL (upA S x { o with cn := 0 }) l := by simp [zeroL, hp]
      have hr := hs.rng x o hp
      have htp := hs.tp
      have hs1 := hs.up hp (o' := { o with cn := 0 }) ⟨by dsimp only; omega, hr.ou, hr.va, hr.len, hr.ln⟩ rfl rfl
      obtain ⟨h1, h2, h3, h4⟩ := ih hs1
      rw [e]
      refine ⟨h1, h2.trans (up_cnt _ _ _), h3.trans (up_most _ _ _), fun h => ?_⟩
      rw [h4, pay_up hs.ok hp]
      by_cases hx : h = x
      · subst hx
        rw [if_pos rfl, hp]
        simp
      · rw [if_neg hx]
        cases pay S h with
        | none => rfl
        | some y => simp [hx]
theorem remM_ok {l : List Int} (hs : HInv top S) (hn : l.Nodup) (hl : ∀ h ∈ l, ∃ o, pay S h = some o ∧ o.ou = 0) : HInv top (zeroL S l) ∧ WtOk (zeroL S l) l ∧ (zeroL S l).cnt = S.cnt ∧ (zeroL S l).most = S.most := by
  obtain ⟨h1, h2, h3, h4⟩ := zeroL_ok l hs
  refine ⟨h1, ⟨hn, fun h hh => ?_⟩, h2, h3⟩
  obtain ⟨o, hp, h0⟩ := hl h hh
  exact ⟨{ o with cn := 0 }, by rw [h4, hp]; simp [hh], h0, rfl⟩
theorem stM_inv (hs : HInv top S) {h n : Int} (hn : -9223372036854775808 ≤ n ∧ n ≤ 9223372036854775807) : HInv top (stM S h n).1 ∧ (stM S h n).1.cnt = S.cnt ∧ (stM S h n).1.most = S.most := by
  unfold stM
  split
  · exact ⟨hs, rfl, rfl⟩
  · rename_i o hp
    have hr := hs.rng h o hp
    exact ⟨hs.up hp ⟨hr.cn, hr.ou, hn, hr.len, hr.ln⟩ rfl rfl, up_cnt _ _ _, up_most _ _ _⟩
end
end Go.Proofs.Ytgchemgnmijpdaa
