/- HeapCounts: each count is how many hold; plain laws. No conditions. -/
import Derived.Test.YtgchemgnmijpdaaH10
set_option linter.unusedVariables false
set_option linter.unusedSimpArgs false
namespace Go.Proofs.Ytgchemgnmijpdaa
open Go.Sp Go.RowKit

/-! ### handles that were given -/
section
variable {α : Type}
/-- A handle that was given: its place has moved on, or isn't free. -/
def Was (s : AS α) (h : Int) : Prop := ∃ (i : Nat) (g : Int) (y : Spot α), h = hd i g ∧ s.sp[i]? = some y ∧ 0 ≤ g ∧ g ≤ y.g ∧ (g = y.g → i ∉ s.fr)
theorem Was.put {s : AS α} {h : Int} {x : α} (hs : AOk s) (hw : Was s h) : Was (Go.Proofs.Ytgchemgnmijpdaa.put s x).1 h ∧ ((Go.Proofs.Ytgchemgnmijpdaa.put s x).2.2 = 0 → (Go.Proofs.Ytgchemgnmijpdaa.put s x).2.1 ≠ h) := by
  obtain ⟨i, g, y, rfl, hy, h0, h1, h2⟩ := hw
  have hlt := (List.getElem?_eq_some_iff.1 hy).1
  have hl := hs.len
  have hm := hs.most1
  rcases put_cases hs x with ⟨fr, j, z, hfr, hz, hst, hput⟩ | ⟨hfr, hfull, hput⟩ | ⟨hfr, hfull, hput⟩
  · rw [hput]
    have hltj := (List.getElem?_eq_some_iff.1 hz).1
    rw [hfr] at h2
    refine ⟨?_, fun _ e => ?_⟩
    · by_cases e : j = i
      · subst e
        rw [hy] at hz
        cases hz
        exact ⟨j, g, ⟨x, y.g, 1⟩, rfl, by simp [hlt], h0, h1, fun e hm => h2 e (by simp [hm])⟩
      · exact ⟨i, g, y, rfl, by simp [List.getElem?_set, e, hy], h0, h1, fun e hm => h2 e (by simp [hm])⟩
    · obtain ⟨rfl, rfl⟩ := hd_inj (by omega) (by omega) e
      rw [hy] at hz
      cases hz
      exact h2 rfl (by simp)
  · rw [hput]
    exact ⟨⟨i, g, y, rfl, hy, h0, h1, h2⟩, fun e => by cases e⟩
  · rw [hput]
    refine ⟨⟨i, g, y, rfl, by rw [List.getElem?_append_left hlt]; exact hy, h0, h1, by simp⟩, fun _ e => ?_⟩
    obtain ⟨e, _⟩ := hd_inj (by omega) (by omega) e
    omega
theorem Was.new {s : AS α} {x : α} (hs : AOk s) (he : (Go.Proofs.Ytgchemgnmijpdaa.put s x).2.2 = 0) : Was (Go.Proofs.Ytgchemgnmijpdaa.put s x).1 (Go.Proofs.Ytgchemgnmijpdaa.put s x).2.1 := by
  rcases put_cases hs x with ⟨fr, j, z, hfr, hz, hst, hput⟩ | ⟨hfr, hfull, hput⟩ | ⟨hfr, hfull, hput⟩
  · rw [hput]
    have hltj := (List.getElem?_eq_some_iff.1 hz).1
    have hg := hs.g z (List.mem_of_getElem? hz)
    have hnd := hs.nd
    rw [hfr] at hnd
    exact ⟨j, z.g, ⟨x, z.g, 1⟩, rfl, by simp [hltj], by omega, Int.le_refl _, fun _ hm => (List.nodup_append.1 hnd).2.2 j hm j (.head _) rfl⟩
  · rw [hput] at he
    cases he
  · rw [hput]
    have := hs.first0
    exact ⟨s.sp.length, s.first, ⟨x, s.first, 1⟩, rfl, by simp, by omega, Int.le_refl _, by simp⟩
theorem Was.rm {z0 : α} {s : AS α} {h h' : Int} (hs : AOk s) (hw : Was s h) : Was (rmA z0 s h') h := by
  unfold rmA
  cases hf : find s h' with
  | none => rw [dropR_none hf]; exact hw
  | some i =>
    obtain ⟨y, hy, h1, _⟩ := (find_iff hs).1 hf
    rw [dropR_some hf hy]
    obtain ⟨j, g, z, rfl, hz, h2, h3, h4⟩ := hw
    have hlt := (List.getElem?_eq_some_iff.1 hy).1
    by_cases e : i = j
    · subst e
      rw [hy] at hz
      cases hz
      rcases drop_cases (z := z0) hy with ⟨hg, hd⟩ | ⟨hg, hd⟩
      · rw [hd]
        exact ⟨i, g, ⟨z0, y.g + 1, 0⟩, rfl, by simp [hlt], h2, by show g ≤ y.g + 1; omega, fun e => by have e : g = y.g + 1 := e; omega⟩
      · rw [hd]
        exact ⟨i, g, ⟨z0, y.g, 2⟩, rfl, by simp [hlt], h2, h3, h4⟩
    · rcases drop_cases (z := z0) hy with ⟨hg, hd⟩ | ⟨hg, hd⟩
      · rw [hd]
        exact ⟨j, g, z, rfl, by simp [List.getElem?_set, e, hz], h2, h3, fun e' hm => by
          rcases List.mem_append.1 hm with hm | hm
          · exact h4 e' hm
          · rw [List.mem_singleton] at hm
            exact e hm.symm⟩
      · rw [hd]
        exact ⟨j, g, z, rfl, by simp [List.getElem?_set, e, hz], h2, h3, h4⟩
theorem Was.up {s : AS α} {h h' : Int} {x : α} (hw : Was s h) : Was (upA s h' x) h := by
  unfold upA
  split
  · rename_i i _
    obtain ⟨j, g, z, rfl, hz, h2, h3, h4⟩ := hw
    cases hy : s.sp[i]? with
    | none => simp only [setX, hy]; exact ⟨j, g, z, rfl, hz, h2, h3, h4⟩
    | some y =>
      rw [setX_eq hy]
      have hlt := (List.getElem?_eq_some_iff.1 hy).1
      by_cases e : i = j
      · subst e
        rw [hy] at hz
        cases hz
        exact ⟨i, g, ⟨x, z.g, z.st⟩, rfl, by simp [hlt], h2, h3, h4⟩
      · exact ⟨j, g, z, rfl, by simp [List.getElem?_set, e, hz], h2, h3, h4⟩
  · exact hw
end
/-! ### how many hold -/
def rf (S : HS) (H : List Int) (h : Int) : Nat := (H.flatMap (lnOf S)).count (1, h)
theorem rf_same {S S' : HS} {H : List Int} (h : ∀ x ∈ H, lnOf S' x = lnOf S x) (x : Int) : rf S' H x = rf S H x := by
  unfold rf
  congr 1
  induction H with
  | nil => rfl
  | cons a H ih => rw [List.flatMap_cons, List.flatMap_cons, h a (.head _), ih fun y hy => h y (.tail _ hy)]
theorem rf_cons (S : HS) (a : Int) (H : List Int) (x : Int) : rf S (a :: H) x = (lnOf S a).count (1, x) + rf S H x := by
  rw [rf, List.flatMap_cons, List.count_append]
  rfl
theorem rf_swap {S S' : HS} {H : List Int} {w : Int} (hn : H.Nodup) (hw : w ∈ H) (ho : ∀ x ∈ H, x ≠ w → lnOf S' x = lnOf S x) (x : Int) : rf S' H x + (lnOf S w).count (1, x) = rf S H x + (lnOf S' w).count (1, x) := by
  induction H with
  | nil => cases hw
  | cons a H ih =>
    rw [List.nodup_cons] at hn
    rw [rf_cons, rf_cons]
    by_cases e : a = w
    · subst e
      have := rf_same (S := S) (S' := S') (H := H) (fun y hy => ho y (.tail _ hy) fun e => hn.1 (e ▸ hy)) x
      omega
    · have hw : w ∈ H := by
        rcases List.mem_cons.1 hw with e' | hw
        · exact absurd e'.symm e
        · exact hw
      have := ih hn.2 hw fun y hy => ho y (.tail _ hy)
      have := ho a (.head _) e
      rw [this]
      omega
theorem lnOf_some {S : HS} {h : Int} {o : OM} (hp : pay S h = some o) : lnOf S h = o.ln := by rw [lnOf, hp]
theorem lnOf_none {S : HS} {h : Int} (hp : pay S h = none) : lnOf S h = [] := by rw [lnOf, hp]
def GoodL (S : HS) (x : Int × Int) : Prop := x.1 = 0 ∨ (x.1 = 1 ∧ ∃ o, pay S x.2 = some o)
theorem GoodL.mono {S S' : HS} {x : Int × Int} (h : GoodL S x) (hm : ∀ y o, pay S y = some o → ∃ o', pay S' y = some o') : GoodL S' x := by
  rcases h with h | ⟨h, o, hp⟩
  · exact .inl h
  · exact .inr ⟨h, hm _ _ hp⟩
structure CI (S : HS) (H : List Int) (out : Int → Int) (l : List (Int × Int)) : Prop where
  inv : HInv 1048576 S
  ou : ∀ h o, pay S h = some o → o.ou = 0
  inn : ∀ h o, pay S h = some o → o.inn = []
  len : ∀ h o, pay S h = some o → o.ln.length = 2
  mem : ∀ h o, pay S h = some o → h ∈ H
  good : ∀ h o, pay S h = some o → ∀ x ∈ o.ln, GoodL S x
  cn : ∀ h o, pay S h = some o → o.cn = out h + rf S H h + l.count (1, h)
  pend : ∀ x ∈ l, GoodL S x
  dead : ∀ h, pay S h = none → out h = 0
  out0 : ∀ h, 0 ≤ out h
  nd : H.Nodup
  was : ∀ h ∈ H, Was S h
def updI (f : Int → Int) (h n : Int) : Int → Int := fun x => if x = h then n else f x
section
variable {S : HS} {H : List Int} {out : Int → Int} {l : List (Int × Int)} {wt fo : List Int}
theorem count_one {x : Int × Int} {h : Int} {l : List (Int × Int)} : (x :: l).count (1, h) = l.count (1, h) + if x = (1, h) then 1 else 0 := by
  rw [List.count_cons]
  simp
/-- One turned, but for what it has in its slots. -/
theorem CI.upc {m : List (Int × Int)} {out' : Int → Int} (hc : CI S H out l) {h : Int} {o o' : OM} (hp : pay S h = some o) (ho : OmOk 1048576 o') (h1 : o'.ou = o.ou) (h2 : o'.inn = o.inn) (h3 : o'.ln = o.ln)
    (hn : o'.cn = out' h + rf S H h + m.count (1, h)) (hn2 : ∀ x, x ≠ h → out' x + m.count (1, x) = out x + l.count (1, x)) (hm : ∀ x ∈ m, GoodL S x) (hd : ∀ x, x ≠ h → out' x = out x) (h0 : 0 ≤ out' h) : CI (upA S h o') H out' m := by
  have hok := hc.inv.ok
  have get := pay_up hok hp (x := o')
  have hln : ∀ x, lnOf (upA S h o') x = lnOf S x := fun x => by
    unfold lnOf
    rw [get]
    by_cases e : x = h
    · rw [if_pos e, e, hp]; exact h3
    · rw [if_neg e]
  have hrf : ∀ x, rf (upA S h o') H x = rf S H x := fun x => rf_same (fun y _ => hln y) x
  have live : ∀ y o, pay S y = some o → ∃ o'', pay (upA S h o') y = some o'' := fun y oy hy => by
    rw [get]; split
    · exact ⟨_, rfl⟩
    · exact ⟨_, hy⟩
  have back : ∀ {y oy}, pay (upA S h o') y = some oy → ∃ oz, pay S y = some oz ∧ oy.ou = oz.ou ∧ oy.inn = oz.inn ∧ oy.ln = oz.ln ∧ (y = h ∧ oy = o' ∨ y ≠ h ∧ oy = oz) := fun {y oy} hy => by
    rw [get] at hy
    split at hy
    · rename_i e; cases hy; subst e; exact ⟨o, hp, h1, h2, h3, .inl ⟨rfl, rfl⟩⟩
    · rename_i e; exact ⟨oy, hy, rfl, rfl, rfl, .inr ⟨e, rfl⟩⟩
  refine ⟨hc.inv.up hp ho h1 h2, fun y oy hy => ?_, fun y oy hy => ?_, fun y oy hy => ?_, fun y oy hy => ?_, fun y oy hy x hx => ?_, fun y oy hy => ?_, fun x hx => (hm x hx).mono live, fun y hy => ?_, fun y => ?_, hc.nd, fun y hy => (hc.was y hy).up⟩
  · obtain ⟨oz, hz, e, _⟩ := back hy; rw [e]; exact hc.ou y oz hz
  · obtain ⟨oz, hz, _, e, _⟩ := back hy; rw [e]; exact hc.inn y oz hz
  · obtain ⟨oz, hz, _, _, e, _⟩ := back hy; rw [e]; exact hc.len y oz hz
  · obtain ⟨oz, hz, _⟩ := back hy; exact hc.mem y oz hz
  · obtain ⟨oz, hz, _, _, e, _⟩ := back hy; rw [e] at hx; exact (hc.good y oz hz x hx).mono live
  · obtain ⟨oz, hz, _, _, _, ⟨rfl, rfl⟩ | ⟨e, rfl⟩⟩ := back hy
    · rw [hrf]; exact hn
    · have := hc.cn y oy hz
      have := hn2 y e
      rw [hrf]
      omega
  · rw [get] at hy
    split at hy
    · cases hy
    · rename_i e; rw [hd y e]; exact hc.dead y hy
  · by_cases e : y = h
    · rw [e]; exact h0
    · rw [hd y e]; exact hc.out0 y
theorem CI.let_ {x : Int × Int} (hc : CI S H out (x :: l)) (hw : WtOk S wt) : CI (letM S wt fo x).1 H out l ∧ WtOk (letM S wt fo x).1 (letM S wt fo x).2.1 ∧ (letM S wt fo x).1.most = S.most := by
  obtain ⟨_, q2, _, q4, _⟩ := letM_inv (fo := fo) x hc.inv hw
  refine ⟨?_, q2, q4⟩
  rcases hc.pend x (.head _) with hx | ⟨hx, o, hp⟩
  · have e : letM S wt fo x = (S, wt, fo) := by simp [letM, hx]
    rw [e]
    refine ⟨hc.inv, hc.ou, hc.inn, hc.len, hc.mem, hc.good, fun y oy hy => ?_, fun y hy => hc.pend y (.tail _ hy), hc.dead, hc.out0, hc.nd, hc.was⟩
    have := hc.cn y oy hy
    rw [count_one, if_neg (fun e => by rw [e] at hx; cases hx)] at this
    exact this
  · obtain ⟨x1, y⟩ := x
    have hx : x1 = 1 := hx
    subst hx
    have hp : pay S y = some o := hp
    have h0 := hc.ou y o hp
    have hcn := hc.cn y o hp
    rw [count_one, if_pos rfl] at hcn
    have hout := hc.out0 y
    have hr := hc.inv.rng y o hp
    have e : (letM S wt fo (1, y)).1 = upA S y { o with cn := o.cn - 1 } := by
      simp [letM, whole_some hp, h0, hp, show 0 < o.cn by omega]
    rw [e]
    refine hc.upc hp ⟨by have := hr.cn; dsimp only; omega, hr.ou, hr.va, hr.len, hr.ln⟩ rfl rfl rfl (by dsimp only; omega) (fun x hx => ?_) (fun x hx => hc.pend x (.tail _ hx)) (fun _ _ => rfl) hout
    rw [count_one, if_neg (fun e => hx (Prod.ext_iff.1 e).2.symm)]
    omega
theorem CI.lets : ∀ (l : List (Int × Int)) {S : HS} {wt fo : List Int}, CI S H out l → WtOk S wt → CI (lets (S, wt, fo) l).1 H out [] ∧ WtOk (Go.Proofs.Ytgchemgnmijpdaa.lets (S, wt, fo) l).1 (Go.Proofs.Ytgchemgnmijpdaa.lets (S, wt, fo) l).2.1 ∧ (Go.Proofs.Ytgchemgnmijpdaa.lets (S, wt, fo) l).1.most = S.most := by
  intro l
  induction l with
  | nil => intro S wt fo hc hw; exact ⟨hc, hw, rfl⟩
  | cons x l ih =>
    intro S wt fo hc hw
    obtain ⟨h1, h2, h3⟩ := hc.let_ (fo := fo) hw
    obtain ⟨g1, g2, g3⟩ := ih (fo := (letM S wt fo x).2.2) h1 h2
    have e : Go.Proofs.Ytgchemgnmijpdaa.lets (S, wt, fo) (x :: l) = Go.Proofs.Ytgchemgnmijpdaa.lets ((letM S wt fo x).1, (letM S wt fo x).2.1, (letM S wt fo x).2.2) l := rfl
    rw [e]
    exact ⟨g1, g2, g3.trans h3⟩
/-- Who is linked to, is held. -/
theorem CI.linked (hc : CI S H out l) {h y : Int} {o : OM} (hp : pay S h = some o) (hx : (1, y) ∈ o.ln) : 0 < rf S H y := by
  rw [rf, List.count_pos_iff]
  exact List.mem_flatMap.2 ⟨h, hc.mem h o hp, by rw [lnOf_some hp]; exact hx⟩
theorem CI.rf_dead (hc : CI S H out l) {y : Int} (hy : pay S y = none) : rf S H y = 0 := by
  rw [rf, List.count_eq_zero]
  intro hm
  obtain ⟨h, _, hm⟩ := List.mem_flatMap.1 hm
  cases hp : pay S h with
  | none => rw [lnOf_none hp] at hm; cases hm
  | some o =>
    rw [lnOf_some hp] at hm
    rcases hc.good h o hp _ hm with e | ⟨_, o', hp'⟩
    · cases e
    · rw [hy] at hp'; cases hp'
theorem CI.fall {gn : List Int} {r : HS × List Int × List Int} (h : Fall S wt gn fo r) : CI S H out [] → WtOk S wt → CI r.1 H out [] ∧ r.1.most = S.most := by
  induction h with
  | done => intro hc _; exact ⟨hc, rfl⟩
  | @step S h wt gn fo o q r hp hq _ ih =>
    intro hc hw
    have hinn := hc.inn h o hp
    obtain ⟨h0, hwg⟩ := hw.gone hc.inv hp
    have hcn0 : o.cn = 0 := by
      obtain ⟨o', hp', _, hz⟩ := hw.all h (.head _)
      rw [hp] at hp'
      cases hp'
      exact hz
    have hcn := hc.cn h o hp
    rw [hcn0] at hcn
    have ho0 := hc.out0 h
    simp only [List.count_nil] at hcn
    have hI := hc.inv.gone hp h0
    have hok := hc.inv.ok
    rw [hinn] at hI hwg hq
    have er : rmL S [h] = rmA z0 S h := rfl
    rw [er] at hI hwg hq
    rw [List.flatMap_nil, List.append_nil] at hq
    have get := pay_rm (z := z0) hok hp
    have live : ∀ y oy, y ≠ h → pay S y = some oy → ∃ o', pay (rmA z0 S h) y = some o' := fun y oy e hy => ⟨oy, by rw [get, if_neg e]; exact hy⟩
    have goodl : ∀ {y oy}, pay S y = some oy → ∀ x ∈ oy.ln, GoodL (rmA z0 S h) x := fun {y oy} hy x hx => by
      rcases hc.good y oy hy x hx with e | ⟨e, o', hp'⟩
      · exact .inl e
      · refine .inr ⟨e, live _ _ (fun e2 => ?_) hp'⟩
        have := hc.linked (y := x.2) hy (by rw [← e]; exact hx)
        rw [e2] at this
        omega
    have hmem := hc.mem h o hp
    have hsw := fun x => rf_swap (S := S) (S' := rmA z0 S h) hc.nd hmem (fun y hy e => by unfold lnOf; rw [get, if_neg e]) x
    have hl' : lnOf (rmA z0 S h) h = [] := lnOf_none (by rw [get, if_pos rfl])
    rw [lnOf_some hp, hl'] at hsw
    have back : ∀ {y oy}, pay (rmA z0 S h) y = some oy → y ≠ h ∧ pay S y = some oy := fun {y oy} hy => by
      rw [get] at hy
      split at hy
      · cases hy
      · rename_i e; exact ⟨e, hy⟩
    have hc1 : CI (rmA z0 S h) H out o.ln := by
      refine ⟨hI, fun y oy hy => hc.ou y oy (back hy).2, fun y oy hy => hc.inn y oy (back hy).2, fun y oy hy => hc.len y oy (back hy).2, fun y oy hy => hc.mem y oy (back hy).2, fun y oy hy => goodl (back hy).2, fun y oy hy => ?_, goodl hp, fun y hy => ?_, hc.out0, hc.nd, fun y hy => (hc.was y hy).rm hok⟩
      · have h1 := hc.cn y oy (back hy).2
        have h2 := hsw y
        simp only [List.count_nil] at h1 h2
        omega
      · rw [get] at hy
        split at hy
        · rename_i e; subst e; omega
        · exact hc.dead y hy
    obtain ⟨q1, q2, q3⟩ := CI.lets (fo := fo) o.ln hc1 hwg
    rw [← hq] at q1 q2 q3
    obtain ⟨r1, r2⟩ := ih q1 q2
    exact ⟨r1, r2.trans (q3.trans (rm_most hok hp))⟩
/-- Made. -/
theorem CI.make (hc : CI S H out []) (he : (put S (newO 2 0)).2.2 = 0) : CI (put S (newO 2 0)).1 (H ++ [(put S (newO 2 0)).2.1]) (updI out (put S (newO 2 0)).2.1 1) [] ∧ (put S (newO 2 0)).1.most = S.most := by
  have hok := hc.inv.ok
  have get := pay_put hok he
  have hfr := pay_fresh hok he
  have hnot : ∀ y ∈ H, (put S (newO 2 0)).2.1 ≠ y := fun y hy => ((hc.was y hy).put hok).2 he
  have hwas : ∀ y ∈ H, Was (put S (newO 2 0)).1 y := fun y hy => ((hc.was y hy).put hok).1
  have hnew := Was.new hok he
  have hI := hc.inv.put0 (newO_ok (by decide) (slots := 2) (by decide) (by decide)) rfl rfl he
  have hM : (put S (newO 2 0)).1.most = S.most := put_most hok
  refine ⟨?_, hM⟩
  generalize put S (newO 2 0) = q at get hfr hnot hwas hnew hI hM he ⊢
  obtain ⟨T, x, e⟩ := q
  dsimp only at get hfr hnot hwas hnew hI hM he ⊢
  have hnl : (newO 2 0).ln = [(0, 0), (0, 0)] := rfl
  have hln : ∀ y ∈ H, lnOf T y = lnOf S y := fun y hy => by
    unfold lnOf
    rw [get, if_neg (fun e => hnot y hy e.symm)]
  have hrf : ∀ y, rf T (H ++ [x]) y = rf S H y := fun y => by
    have e1 : rf T (H ++ [x]) y = rf T H y + (lnOf T x).count (1, y) := by
      unfold rf
      rw [List.flatMap_append, List.count_append]
      simp
    have e2 : lnOf T x = [(0, 0), (0, 0)] := by rw [lnOf_some (by rw [get, if_pos rfl])]; rfl
    rw [e1, e2, rf_same hln]
    simp
  have live : ∀ y oy, pay S y = some oy → ∃ o', pay T y = some o' := fun y oy hy => by
    rw [get]; split
    · exact ⟨_, rfl⟩
    · exact ⟨_, hy⟩
  refine ⟨hI, fun y oy hy => ?_, fun y oy hy => ?_, fun y oy hy => ?_, fun y oy hy => ?_, fun y oy hy z hz => ?_, fun y oy hy => ?_, (fun z hz => by cases hz), fun y hy => ?_, fun y => ?_, ?_, fun y hy => ?_⟩
  · rw [get] at hy
    split at hy
    · cases hy; rfl
    · exact hc.ou y oy hy
  · rw [get] at hy
    split at hy
    · cases hy; rfl
    · exact hc.inn y oy hy
  · rw [get] at hy
    split at hy
    · cases hy; rfl
    · exact hc.len y oy hy
  · rw [get] at hy
    split at hy
    · rename_i e; subst e; simp
    · exact List.mem_append.2 (.inl (hc.mem y oy hy))
  · rw [get] at hy
    split at hy
    · cases hy
      rw [hnl] at hz
      simp at hz
      exact .inl (by rw [hz])
    · exact (hc.good y oy hy z hz).mono live
  · rw [hrf]
    rw [get] at hy
    split at hy
    · rename_i e
      subst e
      cases hy
      rw [hc.rf_dead hfr, updI, if_pos rfl]
      rfl
    · rename_i e
      rw [updI, if_neg e]
      exact hc.cn y oy hy
  · rw [get] at hy
    split at hy
    · cases hy
    · rename_i e
      rw [updI, if_neg e]
      exact hc.dead y hy
  · unfold updI
    split
    · decide
    · exact hc.out0 y
  · refine List.nodup_append.2 ⟨hc.nd, by simp, fun a ha b hb e => ?_⟩
    rw [List.mem_singleton] at hb
    exact hnot a ha (by rw [← hb, e])
  · rcases List.mem_append.1 hy with hy | hy
    · exact hwas y hy
    · rw [List.mem_singleton] at hy; subst hy; exact hnew
/-- Held once more. -/
theorem CI.held (hc : CI S H out []) {h : Int} {o : OM} (hp : pay S h = some o) (hlt : o.cn < 1048576) : upM 1048576 S h = (upA S h { o with cn := o.cn + 1 }, o.cn + 1, 0) ∧ CI (upA S h { o with cn := o.cn + 1 }) H out [(1, h)] ∧ CI (upA S h { o with cn := o.cn + 1 }) H (updI out h (out h + 1)) [] := by
  have h0 := hc.ou h o hp
  have hcn := hc.cn h o hp
  have hout := hc.out0 h
  have hr := hc.inv.rng h o hp
  have hok : OmOk 1048576 { o with cn := o.cn + 1 } := ⟨by have := hr.cn; dsimp only; omega, hr.ou, hr.va, hr.len, hr.ln⟩
  simp only [List.count_nil] at hcn
  refine ⟨?_, hc.upc hp hok rfl rfl rfl ?_ (fun x hx => ?_) (fun x hx => ?_) (fun _ _ => rfl) hout, hc.upc hp hok rfl rfl rfl ?_ (fun x hx => ?_) (fun x hx => by cases hx) (fun x hx => by rw [updI, if_neg hx]) (by rw [updI, if_pos rfl]; omega)⟩
  · simp [upM, whole_some hp, h0, hp]
    omega
  · rw [count_one, if_pos rfl]; simp only [List.count_nil]; omega
  · rw [count_one, if_neg (fun e => hx (Prod.ext_iff.1 e).2.symm)]; rfl
  · rw [List.mem_singleton] at hx; subst hx; exact .inr ⟨rfl, o, hp⟩
  · rw [updI, if_pos rfl]; simp only [List.count_nil]; omega
  · rw [updI, if_neg hx]
/-- Let go from outside. -/
theorem CI.down (hc : CI S H out []) {h : Int} {o : OM} (hp : pay S h = some o) (ho : 0 < out h) : CI S H (updI out h (out h - 1)) [(1, h)] := by
  refine ⟨hc.inv, hc.ou, hc.inn, hc.len, hc.mem, hc.good, fun y oy hy => ?_, fun x hx => ?_, fun y hy => ?_, fun y => ?_, hc.nd, hc.was⟩
  · have := hc.cn y oy hy
    simp only [List.count_nil] at this
    by_cases e : y = h
    · subst e
      rw [count_one, if_pos rfl, updI, if_pos rfl]
      simp only [List.count_nil]
      omega
    · rw [count_one, if_neg (fun e' => e (Prod.ext_iff.1 e').2.symm), updI, if_neg e]
      simp only [List.count_nil]
      omega
  · rw [List.mem_singleton] at hx; subst hx; exact .inr ⟨rfl, o, hp⟩
  · have e : y ≠ h := fun e => by rw [e, hp] at hy; cases hy
    rw [updI, if_neg e]; exact hc.dead y hy
  · unfold updI
    split
    · omega
    · exact hc.out0 y
theorem count_setL {z x y : Int × Int} : ∀ {l : List (Int × Int)} {n : Nat}, l[n]? = some y → (l.set n x).count z + (if y = z then 1 else 0) = l.count z + if x = z then 1 else 0
  | [], n, h => by simp at h
  | a :: l, 0, h => by
    have h : a = y := by simpa using h
    subst h
    rw [List.set_cons_zero, List.count_cons, List.count_cons]
    simp only [beq_iff_eq]
    omega
  | a :: l, n + 1, h => by
    have := count_setL (z := z) (x := x) (l := l) (n := n) (by simpa using h)
    rw [List.set_cons_succ, List.count_cons, List.count_cons]
    omega
/-- Laid into a slot; what was there goes. -/
theorem CI.slot {k : Int} (hc : CI S H out [(1, k)]) (hk : 0 ≤ k ∧ k ≤ 18446744073709551615) {h : Int} {o : OM} (hp : pay S h = some o) {n : Nat} {y : Int × Int} (hy : o.ln[n]? = some y) : CI (upA S h { o with ln := o.ln.set n (1, k) }) H out [y] := by
  have hok := hc.inv.ok
  have get := pay_up hok hp (x := { o with ln := o.ln.set n (1, k) })
  have hI := hc.inv.slot hp (i := n) (x := (1, k)) ⟨(show -9223372036854775808 ≤ (1 : Int) ∧ (1 : Int) ≤ 9223372036854775807 by decide), hk⟩
  have hmem := hc.mem h o hp
  have hsw := fun x => rf_swap (S := S) (S' := upA S h { o with ln := o.ln.set n (1, k) }) hc.nd hmem (fun z hz e => by unfold lnOf; rw [get, if_neg e]) x
  have hl' : lnOf (upA S h { o with ln := o.ln.set n (1, k) }) h = o.ln.set n (1, k) := by rw [lnOf_some (by rw [get, if_pos rfl])]
  rw [lnOf_some hp, hl'] at hsw
  have live : ∀ z oz, pay S z = some oz → ∃ o', pay (upA S h { o with ln := o.ln.set n (1, k) }) z = some o' := fun z oz hz => by
    rw [get]; split
    · exact ⟨_, rfl⟩
    · exact ⟨_, hz⟩
  have hgy := hc.good h o hp y (List.mem_of_getElem? hy)
  have back : ∀ {z oz}, pay (upA S h { o with ln := o.ln.set n (1, k) }) z = some oz → (z = h ∧ oz = { o with ln := o.ln.set n (1, k) }) ∨ (z ≠ h ∧ pay S z = some oz) := fun {z oz} hz => by
    rw [get] at hz
    split at hz
    · rename_i e; cases hz; exact .inl ⟨e, rfl⟩
    · rename_i e; exact .inr ⟨e, hz⟩
  have cnt : ∀ z oz, pay S z = some oz → oz.cn = out z + rf (upA S h { o with ln := o.ln.set n (1, k) }) H z + List.count (1, z) [y] := fun z oz hz => by
    have h1 := hc.cn z oz hz
    have h2 := hsw z
    have h3 := count_setL (z := (1, z)) (x := (1, k)) hy
    rw [count_one] at h1 ⊢
    simp only [List.count_nil] at h1 ⊢
    omega
  refine ⟨hI, fun z oz hz => ?_, fun z oz hz => ?_, fun z oz hz => ?_, fun z oz hz => ?_, fun z oz hz x hx => ?_, fun z oz hz => ?_, fun x hx => ?_, fun z hz => ?_, hc.out0, hc.nd, fun z hz => (hc.was z hz).up⟩
  · rcases back hz with ⟨rfl, rfl⟩ | ⟨_, hz⟩
    · exact hc.ou _ o hp
    · exact hc.ou z oz hz
  · rcases back hz with ⟨rfl, rfl⟩ | ⟨_, hz⟩
    · exact hc.inn _ o hp
    · exact hc.inn z oz hz
  · rcases back hz with ⟨rfl, rfl⟩ | ⟨_, hz⟩
    · simpa using hc.len _ o hp
    · exact hc.len z oz hz
  · rcases back hz with ⟨rfl, rfl⟩ | ⟨_, hz⟩
    · exact hmem
    · exact hc.mem z oz hz
  · rcases back hz with ⟨rfl, rfl⟩ | ⟨_, hz⟩
    · rcases List.mem_or_eq_of_mem_set hx with hx | rfl
      · exact (hc.good _ o hp x hx).mono live
      · exact (hc.pend _ (.head _)).mono live
    · exact (hc.good z oz hz x hx).mono live
  · rcases back hz with ⟨rfl, rfl⟩ | ⟨_, hz⟩
    · exact cnt _ o hp
    · exact cnt z oz hz
  · rw [List.mem_singleton] at hx
    subst hx
    exact hgy.mono live
  · rw [get] at hz
    split at hz
    · cases hz
    · exact hc.dead z hz
end
end Go.Proofs.Ytgchemgnmijpdaa
