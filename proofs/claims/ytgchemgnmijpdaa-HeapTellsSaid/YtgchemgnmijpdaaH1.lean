/- Heaps: what they are; plain laws. No conditions. -/
import Derived.Test.YtgchemgnmijpdaaAX
set_option linter.unusedVariables false
set_option linter.unusedSimpArgs false
namespace Go.Proofs.Ytgchemgnmijpdaa
open Go.Sp Go.RowKit

/-- An object: its count, its whole, its value, its slots, its inners. -/
structure OM where
  cn : Int
  ou : Int
  va : Int
  ln : List (Int × Int)
  inn : List Int
def z0 : OM := ⟨0, 0, 0, [], []⟩
abbrev HS := AS OM
def LinkOk (x : Int × Int) : Prop := (-9223372036854775808 ≤ x.1 ∧ x.1 ≤ 9223372036854775807) ∧ 0 ≤ x.2 ∧ x.2 ≤ 18446744073709551615
structure OmOk (top : Int) (o : OM) : Prop where
  cn : 0 ≤ o.cn ∧ o.cn ≤ top
  ou : 0 ≤ o.ou ∧ o.ou ≤ 18446744073709551615
  va : -9223372036854775808 ≤ o.va ∧ o.va ≤ 9223372036854775807
  len : o.ln.length ≤ 8
  ln : ∀ x ∈ o.ln, LinkOk x
structure HBase (top : Int) (S : HS) : Prop where
  ok : AOk S
  most : S.most ≤ 256
  tp : 1 ≤ top ∧ top ≤ 4294967295
  rng : ∀ h o, pay S h = some o → OmOk top o
structure HInv (top : Int) (S : HS) : Prop extends HBase top S where
  out : ∀ h o, pay S h = some o → o.ou ≠ 0 → ∃ w, pay S o.ou = some w ∧ w.ou = 0 ∧ h ∈ w.inn
  inn : ∀ h o, pay S h = some o → ∀ i ∈ o.inn, ∃ x, pay S i = some x ∧ x.ou = h
  nd : ∀ h o, pay S h = some o → o.inn.Nodup
theorem HBase.cnt {top : Int} {S : HS} (h : HBase top S) : S.cnt ≤ 256 := by
  have := cnt_le h.ok
  have := h.most
  omega
theorem HInv.innlen {top : Int} {S : HS} (h : HInv top S) {x : Int} {o : OM} (hp : pay S x = some o) : o.inn.length ≤ S.cnt :=
  nodup_cnt h.ok (h.nd x o hp) fun i hi => by obtain ⟨y, hy, _⟩ := h.inn x o hp i hi; exact ⟨y, hy⟩
theorem pay_pos {S : HS} (hs : AOk S) {h : Int} {o : OM} (hp : pay S h = some o) : h ≠ 0 := by
  have := pay_range hs hp
  omega

/-! ### wholes -/
def whole (S : HS) (h : Int) : Option Int := (pay S h).map fun o => if o.ou ≠ 0 then o.ou else h
theorem whole_none {S : HS} {h : Int} (hp : pay S h = none) : whole S h = none := by rw [whole, hp]; rfl
theorem whole_some {S : HS} {h : Int} {o : OM} (hp : pay S h = some o) : whole S h = some (if o.ou ≠ 0 then o.ou else h) := by rw [whole, hp]; rfl
theorem HInv.whole {top : Int} {S : HS} (hs : HInv top S) {h w : Int} (hw : whole S h = some w) : ∃ o, pay S w = some o ∧ o.ou = 0 := by
  cases hp : pay S h with
  | none => rw [whole_none hp] at hw; cases hw
  | some o =>
    rw [whole_some hp] at hw
    split at hw
    · rename_i hne
      cases hw
      obtain ⟨v, h1, h2, _⟩ := hs.out h o hp hne
      exact ⟨v, h1, h2⟩
    · rename_i he
      cases hw
      exact ⟨o, hp, by simpa using he⟩

/-! ### letting go -/
def letM (S : HS) (wt fo : List Int) (x : Int × Int) : HS × List Int × List Int :=
  if x.1 = 1 then
    match whole S x.2 with
    | none => (S, wt, fo)
    | some w => match pay S w with
      | none => (S, wt, fo)
      | some o => if 0 < o.cn then (upA S w { o with cn := o.cn - 1 }, if o.cn = 1 then wt ++ [w] else wt, fo) else (S, wt, fo)
  else if x.1 = 2 then (S, wt, fo ++ [x.2]) else (S, wt, fo)
def lets (r : HS × List Int × List Int) (l : List (Int × Int)) : HS × List Int × List Int := l.foldl (fun r x => letM r.1 r.2.1 r.2.2 x) r
theorem lets_snoc (r : HS × List Int × List Int) (l : List (Int × Int)) (x : Int × Int) : lets r (l ++ [x]) = letM (lets r l).1 (lets r l).2.1 (lets r l).2.2 x := by simp [lets]
theorem lets_append (r : HS × List Int × List Int) (l m : List (Int × Int)) : lets r (l ++ m) = lets (lets r l) m := by simp [lets]
def rmL (S : HS) (l : List Int) : HS := l.foldl (fun S h => rmA z0 S h) S
theorem rmL_snoc (S : HS) (l : List Int) (h : Int) : rmL S (l ++ [h]) = rmA z0 (rmL S l) h := by simp [rmL]
def lnOf (S : HS) (h : Int) : List (Int × Int) := match pay S h with | some o => o.ln | none => []
/-- What goes, one behind the other. -/
inductive Fall : HS → List Int → List Int → List Int → HS × List Int × List Int → Prop
  | done {S : HS} {gn fo : List Int} : Fall S [] gn fo (S, gn, fo)
  | step {S : HS} {h : Int} {wt gn fo : List Int} {o : OM} {q : HS × List Int × List Int} {r : HS × List Int × List Int} : pay S h = some o → q = lets (rmL S (h :: o.inn), wt, fo) (o.ln ++ o.inn.flatMap (lnOf S)) → Fall q.1 q.2.1 (gn ++ h :: o.inn) q.2.2 r → Fall S (h :: wt) gn fo r
theorem Fall.one {S : HS} {wt gn fo : List Int} {r r' : HS × List Int × List Int} (h : Fall S wt gn fo r) (h' : Fall S wt gn fo r') : r = r' := by
  induction h generalizing r' with
  | done => cases h'; rfl
  | step hp hq _ ih =>
    cases h' with
    | step hp' hq' hf =>
      rw [hp] at hp'
      cases hp'
      rw [hq'] at hf
      rw [hq] at ih
      exact ih hf
/-- These wait. -/
structure WtOk (S : HS) (wt : List Int) : Prop where
  nd : wt.Nodup
  all : ∀ h ∈ wt, ∃ o, pay S h = some o ∧ o.ou = 0 ∧ o.cn = 0
theorem WtOk.nil {S : HS} : WtOk S [] := ⟨List.nodup_nil, fun h hh => by cases hh⟩

/-! ### what stays so -/
section
variable {top : Int} {S : HS}
theorem HBase.up (hs : HBase top S) {h : Int} {o o' : OM} (hp : pay S h = some o) (ho : OmOk top o') : HBase top (upA S h o') :=
  ⟨hs.ok.up, by rw [up_most]; exact hs.most, hs.tp, fun x y hy => by
    rw [pay_up hs.ok hp] at hy
    split at hy
    · cases hy; exact ho
    · exact hs.rng x y hy⟩
/-- Turned: all but what holds it together. -/
theorem HInv.up (hs : HInv top S) {h : Int} {o o' : OM} (hp : pay S h = some o) (ho : OmOk top o') (h1 : o'.ou = o.ou) (h2 : o'.inn = o.inn) : HInv top (upA S h o') := by
  refine ⟨hs.toHBase.up hp ho, fun x y hy hne => ?_, fun x y hy i hi => ?_, fun x y hy => ?_⟩
  · rw [pay_up hs.ok hp] at hy
    have key : ∀ y0, pay S x = some y0 → y0.ou = y.ou → ∃ w, pay (upA S h o') y.ou = some w ∧ w.ou = 0 ∧ x ∈ w.inn := by
      intro y0 hy0 he
      obtain ⟨w, hw1, hw2, hw3⟩ := hs.out x y0 hy0 (by rw [he]; exact hne)
      rw [he] at hw1
      rw [pay_up hs.ok hp]
      by_cases e : y.ou = h
      · rw [if_pos e]
        rw [e, hp] at hw1
        cases hw1
        exact ⟨o', rfl, by rw [h1, hw2], by rw [h2]; exact hw3⟩
      · rw [if_neg e]
        exact ⟨w, hw1, hw2, hw3⟩
    split at hy
    · rename_i e
      cases hy
      subst e
      exact key o hp h1.symm
    · exact key y hy rfl
  · rw [pay_up hs.ok hp] at hy
    have key : ∀ y0, pay S x = some y0 → i ∈ y0.inn → ∃ w, pay (upA S h o') i = some w ∧ w.ou = x := by
      intro y0 hy0 hi0
      obtain ⟨w, hw1, hw2⟩ := hs.inn x y0 hy0 i hi0
      rw [pay_up hs.ok hp]
      by_cases e : i = h
      · rw [if_pos e]
        rw [e, hp] at hw1
        cases hw1
        exact ⟨o', rfl, by rw [h1, hw2]⟩
      · rw [if_neg e]
        exact ⟨w, hw1, hw2⟩
    split at hy
    · rename_i e
      cases hy
      subst e
      exact key o hp (by rw [← h2]; exact hi)
    · exact key y hy hi
  · rw [pay_up hs.ok hp] at hy
    split at hy
    · cases hy; rw [h2]; exact hs.nd h o hp
    · exact hs.nd x y hy
theorem HBase.rm (hs : HBase top S) {h : Int} {o : OM} (hp : pay S h = some o) : HBase top (rmA z0 S h) :=
  ⟨hs.ok.rm h, by rw [rm_most hs.ok hp]; exact hs.most, hs.tp, fun x y hy => by
    rw [pay_rm hs.ok hp] at hy
    split at hy
    · cases hy
    · exact hs.rng x y hy⟩
theorem rmL_ok : ∀ (l : List Int) {S : HS}, HBase top S → l.Nodup → (∀ h ∈ l, ∃ o, pay S h = some o) →
    HBase top (rmL S l) ∧ (rmL S l).cnt + l.length = S.cnt ∧ (rmL S l).most = S.most ∧ ∀ h', pay (rmL S l) h' = if h' ∈ l then none else pay S h' := by
  intro l
  induction l with
  | nil => intro S hs _ _; exact ⟨hs, rfl, rfl, fun h' => by simp [rmL]⟩
  | cons h l ih =>
    intro S hs hn hl
    rw [List.nodup_cons] at hn
    obtain ⟨o, hp⟩ := hl h (.head _)
    have hl' : ∀ x ∈ l, ∃ o, pay (rmA z0 S h) x = some o := fun x hx => by
      obtain ⟨o', hp'⟩ := hl x (.tail _ hx)
      refine ⟨o', ?_⟩
      rw [pay_rm hs.ok hp, if_neg (show ¬ x = h from fun e => hn.1 (e ▸ hx))]
      exact hp'
    obtain ⟨h1, h2, h3, h4⟩ := ih (hs.rm hp) hn.2 hl'
    have h5 := rm_cnt (z := z0) hs.ok hp
    refine ⟨h1, ?_, h3.trans (rm_most hs.ok hp), fun h' => ?_⟩
    · show (rmL (rmA z0 S h) l).cnt + (l.length + 1) = _
      omega
    · show pay (rmL (rmA z0 S h) l) h' = _
      rw [h4, pay_rm hs.ok hp]
      by_cases e : h' = h
      · simp [e]
      · simp [e]
/-- One that waits, and its inners: they may go. -/
theorem HInv.goers (hs : HInv top S) {h : Int} {o : OM} (hp : pay S h = some o) (h0 : o.ou = 0) : (h :: o.inn).Nodup ∧ ∀ x ∈ h :: o.inn, ∃ o, pay S x = some o := by
  refine ⟨List.nodup_cons.2 ⟨fun hm => ?_, hs.nd h o hp⟩, fun x hx => ?_⟩
  · obtain ⟨x, hx, e⟩ := hs.inn h o hp h hm
    rw [hp] at hx
    cases hx
    exact pay_pos hs.ok hp (by omega)
  · rcases List.mem_cons.1 hx with rfl | hx
    · exact ⟨o, hp⟩
    · obtain ⟨y, hy, _⟩ := hs.inn h o hp x hx
      exact ⟨y, hy⟩
theorem HInv.gone (hs : HInv top S) {h : Int} {o : OM} (hp : pay S h = some o) (h0 : o.ou = 0) : HInv top (rmL S (h :: o.inn)) := by
  obtain ⟨hn, hl⟩ := hs.goers hp h0
  obtain ⟨h1, _, _, h4⟩ := rmL_ok _ hs.toHBase hn hl
  have alive : ∀ x y, pay (rmL S (h :: o.inn)) x = some y → x ∉ h :: o.inn ∧ pay S x = some y := by
    intro x y hy
    rw [h4] at hy
    split at hy
    · cases hy
    · rename_i hx; exact ⟨hx, hy⟩
  refine ⟨h1, fun x y hy hne => ?_, fun x y hy i hi => ?_, fun x y hy => hs.nd x y (alive x y hy).2⟩
  · obtain ⟨hx, hy⟩ := alive x y hy
    obtain ⟨w, hw1, hw2, hw3⟩ := hs.out x y hy hne
    refine ⟨w, ?_, hw2, hw3⟩
    rw [h4, if_neg]
    · exact hw1
    · intro hm
      rcases List.mem_cons.1 hm with e | hm
      · rw [e, hp] at hw1
        cases hw1
        exact hx (List.mem_cons_of_mem _ hw3)
      · obtain ⟨v, hv1, hv2⟩ := hs.inn h o hp _ hm
        rw [hw1] at hv1
        cases hv1
        exact pay_pos hs.ok hp (by omega)
  · obtain ⟨hx, hy⟩ := alive x y hy
    obtain ⟨w, hw1, hw2⟩ := hs.inn x y hy i hi
    refine ⟨w, ?_, hw2⟩
    rw [h4, if_neg]
    · exact hw1
    · intro hm
      rcases List.mem_cons.1 hm with e | hm
      · rw [e, hp] at hw1
        cases hw1
        exact pay_pos hs.ok hy (by omega)
      · obtain ⟨v, hv1, hv2⟩ := hs.inn h o hp _ hm
        rw [hw1] at hv1
        cases hv1
        exact hx (by rw [← hw2, hv2]; exact .head _)
theorem WtOk.gone (hs : HInv top S) {h : Int} {wt : List Int} (hw : WtOk S (h :: wt)) {o : OM} (hp : pay S h = some o) : o.ou = 0 ∧ WtOk (rmL S (h :: o.inn)) wt := by
  obtain ⟨o', hp', h0, hc⟩ := hw.all h (.head _)
  rw [hp] at hp'
  cases hp'
  have hnd := hw.nd
  rw [List.nodup_cons] at hnd
  obtain ⟨hn, hl⟩ := hs.goers hp h0
  obtain ⟨h1, _, _, h4⟩ := rmL_ok _ hs.toHBase hn hl
  refine ⟨h0, hnd.2, fun x hx => ?_⟩
  obtain ⟨y, hy, hy0, hyc⟩ := hw.all x (.tail _ hx)
  refine ⟨y, ?_, hy0, hyc⟩
  rw [h4, if_neg]
  · exact hy
  · intro hm
    rcases List.mem_cons.1 hm with e | hm
    · exact hnd.1 (e ▸ hx)
    · obtain ⟨v, hv1, hv2⟩ := hs.inn h o hp _ hm
      rw [hy] at hv1
      cases hv1
      exact pay_pos hs.ok hp (by omega)
/-- A link is let go. -/
theorem letM_cases (S : HS) (wt fo : List Int) (x : Int × Int) (hs : HInv top S) :
    (x.1 = 1 ∧ ∃ w o, whole S x.2 = some w ∧ pay S w = some o ∧ o.ou = 0 ∧ 0 < o.cn ∧ letM S wt fo x = (upA S w { o with cn := o.cn - 1 }, if o.cn = 1 then wt ++ [w] else wt, fo)) ∨
    (x.1 = 1 ∧ (whole S x.2 = none ∨ ∃ w o, whole S x.2 = some w ∧ pay S w = some o ∧ o.cn = 0) ∧ letM S wt fo x = (S, wt, fo)) ∨
    (x.1 = 2 ∧ letM S wt fo x = (S, wt, fo ++ [x.2])) ∨ (x.1 ≠ 1 ∧ x.1 ≠ 2 ∧ letM S wt fo x = (S, wt, fo)) := by
  unfold letM
  by_cases h1 : x.1 = 1
  · rw [if_pos h1]
    cases hw : whole S x.2 with
    | none => exact .inr (.inl ⟨h1, .inl rfl, rfl⟩)
    | some w =>
      obtain ⟨o, hp, h0⟩ := hs.whole hw
      by_cases hc : 0 < o.cn
      · exact .inl ⟨h1, w, o, rfl, hp, h0, hc, by simp only [hp]; rw [if_pos hc]⟩
      · have := (hs.rng w o hp).cn
        exact .inr (.inl ⟨h1, .inr ⟨w, o, rfl, hp, by omega⟩, by simp only [hp]; rw [if_neg hc]⟩)
  · rw [if_neg h1]
    by_cases h2 : x.1 = 2
    · exact .inr (.inr (.inl ⟨h2, by rw [if_pos h2]⟩))
    · exact .inr (.inr (.inr ⟨h1, h2, by rw [if_neg h2]⟩))
theorem letM_inv {wt fo : List Int} (x : Int × Int) (hs : HInv top S) (hw : WtOk S wt) :
    HInv top (letM S wt fo x).1 ∧ WtOk (letM S wt fo x).1 (letM S wt fo x).2.1 ∧ (letM S wt fo x).1.cnt = S.cnt ∧ (letM S wt fo x).1.most = S.most ∧ (letM S wt fo x).2.1.length + (letM S wt fo x).2.2.length ≤ wt.length + fo.length + 1 := by
  rcases letM_cases S wt fo x hs with ⟨h1, w, o, hww, hp, h0, hc, e⟩ | ⟨h1, _, e⟩ | ⟨h2, e⟩ | ⟨_, _, e⟩ <;> rw [e] <;> dsimp only
  · have hr := hs.rng w o hp
    have ho : OmOk top { o with cn := o.cn - 1 } := ⟨by have := hr.cn; dsimp only; omega, hr.ou, hr.va, hr.len, hr.ln⟩
    refine ⟨hs.up hp ho rfl rfl, ?_, up_cnt _ _ _, up_most _ _ _, by split <;> simp <;> omega⟩
    have hnw : w ∉ wt := fun hm => by
      obtain ⟨o', hp', _, hc'⟩ := hw.all w hm
      rw [hp] at hp'
      cases hp'
      omega
    have old : ∀ h ∈ wt, ∃ o', pay (upA S w { o with cn := o.cn - 1 }) h = some o' ∧ o'.ou = 0 ∧ o'.cn = 0 := fun h hh => by
      obtain ⟨o', hp', h2⟩ := hw.all h hh
      refine ⟨o', ?_, h2⟩
      rw [pay_up hs.ok hp, if_neg (show ¬ h = w from fun e => hnw (e ▸ hh))]
      exact hp'
    split
    · rename_i h1c
      refine ⟨List.nodup_append.2 ⟨hw.nd, by simp, fun a ha b hb e => ?_⟩, fun h hh => ?_⟩
      · rw [List.mem_singleton] at hb
        exact hnw (hb ▸ e ▸ ha)
      · rcases List.mem_append.1 hh with hh | hh
        · exact old h hh
        · rw [List.mem_singleton] at hh
          subst hh
          exact ⟨{ o with cn := o.cn - 1 }, by rw [pay_up hs.ok hp, if_pos rfl], h0, by dsimp only; omega⟩
    · exact ⟨hw.nd, old⟩
  · exact ⟨hs, hw, rfl, rfl, by omega⟩
  · exact ⟨hs, hw, rfl, rfl, by simp; omega⟩
  · exact ⟨hs, hw, rfl, rfl, by omega⟩
theorem lets_inv : ∀ (l : List (Int × Int)) {S : HS} {wt fo : List Int}, HInv top S → WtOk S wt →
    HInv top (lets (S, wt, fo) l).1 ∧ WtOk (lets (S, wt, fo) l).1 (lets (S, wt, fo) l).2.1 ∧ (lets (S, wt, fo) l).1.cnt = S.cnt ∧ (lets (S, wt, fo) l).1.most = S.most ∧ (lets (S, wt, fo) l).2.1.length + (lets (S, wt, fo) l).2.2.length ≤ wt.length + fo.length + l.length := by
  intro l
  induction l with
  | nil => intro S wt fo hs hw; exact ⟨hs, hw, rfl, rfl, by simp [lets]⟩
  | cons x l ih =>
    intro S wt fo hs hw
    obtain ⟨h1, h2, h3, h4, h5⟩ := letM_inv (fo := fo) x hs hw
    obtain ⟨g1, g2, g3, g4, g5⟩ := ih (fo := (letM S wt fo x).2.2) h1 h2
    have e : lets (S, wt, fo) (x :: l) = lets ((letM S wt fo x).1, (letM S wt fo x).2.1, (letM S wt fo x).2.2) l := rfl
    rw [e]
    exact ⟨g1, g2, g3.trans h3, g4.trans h4, by rw [List.length_cons]; omega⟩
end
end Go.Proofs.Ytgchemgnmijpdaa
