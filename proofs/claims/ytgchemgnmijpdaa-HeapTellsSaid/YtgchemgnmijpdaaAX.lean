/- Arenas: turning what is in a spot; what a handle finds. No conditions. -/
import Derived.Test.YtgchemgnmijpdaaAL
set_option linter.unusedVariables false
set_option linter.unusedSimpArgs false
namespace Go.Proofs.Ytgchemgnmijpdaa
open Go.Sp Go.RowKit

/-! ### turning what is in a spot -/
section
variable {α β : Type}
def setX (s : AS α) (i : Nat) (x : α) : AS α := match s.sp[i]? with | some y => { s with sp := s.sp.set i ⟨x, y.g, y.st⟩ } | none => s
theorem setX_eq {s : AS α} {i : Nat} {x : α} {y : Spot α} (hy : s.sp[i]? = some y) : setX s i x = { s with sp := s.sp.set i ⟨x, y.g, y.st⟩ } := by simp [setX, hy]
theorem setX_unit {s : AS α} {i : Nat} {x : α} {f : α → β} (h : ∀ y, s.sp[i]? = some y → f x = f y.x) : mapA f (setX s i x) = mapA f s := by
  unfold setX
  cases hy : s.sp[i]? with
  | none => rfl
  | some y =>
    show AS.mk _ _ _ _ _ = AS.mk _ _ _ _ _
    congr 1
    show (s.sp.set i _).map _ = s.sp.map _
    apply List.ext_getElem?
    intro j
    rw [List.getElem?_map, List.getElem?_map, List.getElem?_set]
    split
    · rename_i e
      subst e
      rw [hy, if_pos (List.getElem?_eq_some_iff.1 hy).1]
      simp [h y hy]
    · rfl
theorem AOk.setX {s : AS α} (hs : AOk s) {i : Nat} (x : α) : AOk (setX s i x) := by
  unfold Proofs.Ytgchemgnmijpdaa.setX
  cases hy : s.sp[i]? with
  | none => exact hs
  | some y =>
    have hlt := (List.getElem?_eq_some_iff.1 hy).1
    refine ⟨hs.most0, hs.most1, hs.first0, hs.first1, by simpa using hs.len, fun z hz => ?_, fun j hj => ?_, hs.nd, ?_, by simpa using hs.bound⟩
    · rcases List.mem_or_eq_of_mem_set hz with hz | rfl
      · exact hs.g z hz
      · exact hs.g y (List.mem_of_getElem? hy)
    · obtain ⟨z, hz, h0⟩ := hs.fr j hj
      by_cases e : i = j
      · subst e
        rw [hy] at hz
        cases hz
        exact ⟨⟨x, y.g, y.st⟩, by simp [hlt], h0⟩
      · exact ⟨z, by show (s.sp.set i _)[j]? = _; rw [List.getElem?_set, if_neg e]; exact hz, h0⟩
    · show s.cnt = (s.sp.set i _).countP _
      rw [hs.cnt]
      have : s.sp.countP (·.st == 1) = (s.sp.map (·.st)).countP (· == 1) := by rw [List.countP_map]; rfl
      rw [this]
      have e2 : (s.sp.set i ⟨x, y.g, y.st⟩).countP (·.st == 1) = ((s.sp.set i ⟨x, y.g, y.st⟩).map (·.st)).countP (· == 1) := by rw [List.countP_map]; rfl
      rw [e2]
      congr 1
      apply List.ext_getElem?
      intro j
      rw [List.getElem?_map, List.getElem?_map, List.getElem?_set]
      split
      · rename_i e
        subst e
        rw [hy]
        rfl
      · rfl
theorem liv_setX {s : AS α} (hs : AOk s) {i : Nat} {x : α} {y : Spot α} (hy : s.sp[i]? = some y) (h1 : y.st = 1) {h : Int} {e : α} : Liv (setX s i x) h e ↔ (h = hd i y.g ∧ e = x) ∨ (Liv s h e ∧ h ≠ hd i y.g) := by
  rw [setX_eq hy]
  have hlt := (List.getElem?_eq_some_iff.1 hy).1
  constructor
  · rintro ⟨j, u, hu, hu1, rfl, rfl⟩
    rcases set_get hu with ⟨rfl, rfl⟩ | ⟨hne, hu⟩
    · exact .inl ⟨rfl, rfl⟩
    · exact .inr ⟨⟨j, u, hu, hu1, rfl, rfl⟩, fun e => hne (hd_inj (place_lt hs hu) (place_lt hs hy) e).1⟩
  · rintro (⟨rfl, rfl⟩ | ⟨⟨j, u, hu, hu1, rfl, rfl⟩, hne⟩)
    · exact ⟨i, ⟨e, y.g, y.st⟩, by show (s.sp.set i _)[i]? = _; simp [hlt], h1, rfl, rfl⟩
    · have hij : i ≠ j := by
        rintro rfl
        rw [hy] at hu
        cases hu
        exact hne rfl
      exact ⟨j, u, by show (s.sp.set i _)[j]? = _; rw [List.getElem?_set, if_neg hij]; exact hu, hu1, rfl, rfl⟩
end

/-! ### what a handle finds -/
section
variable {α β : Type}
def pay (s : AS α) (h : Int) : Option α := (find s h).bind fun i => (s.sp[i]?).map (·.x)
def upA (s : AS α) (h : Int) (x : α) : AS α := match find s h with | some i => setX s i x | none => s
def rmA (z : α) (s : AS α) (h : Int) : AS α := (dropR z s h).1
theorem pay_iff {s : AS α} (hs : AOk s) {h : Int} {e : α} : pay s h = some e ↔ Liv s h e := by
  rw [Liv.find hs]
  unfold pay
  constructor
  · intro hp
    obtain ⟨i, hi, hx⟩ := Option.bind_eq_some_iff.1 hp
    obtain ⟨y, hy, he⟩ := Option.map_eq_some_iff.1 hx
    exact ⟨i, y, hi, hy, he⟩
  · rintro ⟨i, y, hi, hy, rfl⟩
    rw [hi, Option.bind_some, hy]
    rfl
theorem pay_ext {s : AS α} (hs : AOk s) {h : Int} {r : Option α} (hr : ∀ e, Liv s h e ↔ r = some e) : pay s h = r := by
  cases hp : pay s h with
  | some e => exact ((hr e).1 ((pay_iff hs).1 hp)).symm
  | none =>
    cases r with
    | none => rfl
    | some e => rw [(pay_iff hs).2 ((hr e).2 rfl)] at hp; cases hp
theorem pay_spot {s : AS α} (hs : AOk s) {h : Int} {e : α} (hp : pay s h = some e) : ∃ i y, find s h = some i ∧ s.sp[i]? = some y ∧ y.st = 1 ∧ h = hd i y.g ∧ y.x = e := by
  obtain ⟨i, y, hy, h1, h2, h3⟩ := (pay_iff hs).1 hp
  exact ⟨i, y, (find_iff hs).2 ⟨y, hy, h1, h2⟩, hy, h1, h2, h3.symm⟩
theorem AOk.up {s : AS α} (hs : AOk s) {h : Int} {x : α} : AOk (upA s h x) := by
  unfold upA
  split
  · exact hs.setX x
  · exact hs
theorem AOk.rm {z : α} {s : AS α} (hs : AOk s) (h : Int) : AOk (rmA z s h) := hs.dropR h
theorem pay_up {s : AS α} (hs : AOk s) {h : Int} {e x : α} (hp : pay s h = some e) (h' : Int) : pay (upA s h x) h' = if h' = h then some x else pay s h' := by
  obtain ⟨i, y, hf, hy, h1, h2, h3⟩ := pay_spot hs hp
  refine pay_ext hs.up fun e' => ?_
  unfold upA
  rw [hf]
  dsimp only
  rw [liv_setX hs hy h1, ← h2]
  by_cases hh : h' = h
  · simp [hh, eq_comm]
  · simp [hh, pay_iff hs]
theorem rm_eq {z : α} {s : AS α} (hs : AOk s) {h : Int} {e : α} {i : Nat} {y : Spot α} (hf : find s h = some i) (hy : s.sp[i]? = some y) : rmA z s h = dropS z s i := by
  unfold rmA
  rw [dropR_some hf hy]
theorem pay_rm {z : α} {s : AS α} (hs : AOk s) {h : Int} {e : α} (hp : pay s h = some e) (h' : Int) : pay (rmA z s h) h' = if h' = h then none else pay s h' := by
  obtain ⟨i, y, hf, hy, h1, h2, h3⟩ := pay_spot hs hp
  refine pay_ext (hs.rm h) fun e' => ?_
  rw [rm_eq hs (e := e) hf hy, drop_liv hs hy h1, ← h2]
  by_cases hh : h' = h
  · simp [hh]
  · simp [hh, pay_iff hs]
theorem pay_put {s : AS α} (hs : AOk s) {x : α} (he : (put s x).2.2 = 0) (h' : Int) : pay (put s x).1 h' = if h' = (put s x).2.1 then some x else pay s h' := by
  refine pay_ext (hs.put x) fun e' => ?_
  rw [put_liv hs he]
  by_cases hh : h' = (put s x).2.1
  · subst hh
    have := put_fresh hs he (e := e')
    simp [this, eq_comm]
  · simp [hh, pay_iff hs]
theorem pay_fresh {s : AS α} (hs : AOk s) {x : α} (he : (put s x).2.2 = 0) : pay s (put s x).2.1 = none := pay_ext hs fun e => by simp [put_fresh hs he]
theorem pay_range {s : AS α} (hs : AOk s) {h : Int} {e : α} (hp : pay s h = some e) : 0 < h ∧ h ≤ 18446744073709551615 := ((pay_iff hs).1 hp).range hs
theorem up_cnt (s : AS α) (h : Int) (x : α) : (upA s h x).cnt = s.cnt := by
  unfold upA setX
  split
  · split <;> rfl
  · rfl
theorem up_most (s : AS α) (h : Int) (x : α) : (upA s h x).most = s.most := by
  unfold upA setX
  split
  · split <;> rfl
  · rfl
theorem rm_cnt {z : α} {s : AS α} (hs : AOk s) {h : Int} {e : α} (hp : pay s h = some e) : (rmA z s h).cnt + 1 = s.cnt := by
  obtain ⟨i, y, hf, hy, h1, h2, h3⟩ := pay_spot hs hp
  rw [rm_eq hs (e := e) hf hy]
  exact drop_cnt hs hy h1
theorem rm_most {z : α} {s : AS α} (hs : AOk s) {h : Int} {e : α} (hp : pay s h = some e) : (rmA z s h).most = s.most := by
  obtain ⟨i, y, hf, hy, h1, h2, h3⟩ := pay_spot hs hp
  rw [rm_eq hs (e := e) hf hy]
  exact dropS_most hy
theorem cnt_le {s : AS α} (hs : AOk s) : (s.cnt : Int) ≤ s.most := by
  have := hs.bound
  have := hs.len
  omega

/-! ### seen through a function -/
theorem pay_map {f : α → β} {s : AS α} (hs : AOk s) (h : Int) : pay (mapA f s) h = (pay s h).map f := by
  unfold pay
  rw [find_mapA hs]
  cases find s h with
  | none => rfl
  | some i =>
    rw [Option.bind_some, Option.bind_some, mapA_get, Option.map_map, Option.map_map]
    rfl
theorem setX_map {f : α → β} (s : AS α) (i : Nat) (x : α) : mapA f (setX s i x) = setX (mapA f s) i (f x) := by
  unfold setX
  rw [mapA_get]
  cases hy : s.sp[i]? with
  | none => rfl
  | some y => simp [mapA, List.map_set]
theorem up_map {f : α → β} {s : AS α} (hs : AOk s) (h : Int) (x : α) : mapA f (upA s h x) = upA (mapA f s) h (f x) := by
  unfold upA
  rw [find_mapA hs]
  split
  · exact setX_map _ _ _
  · rfl
theorem dropR_map {f : α → β} {s : AS α} (hs : AOk s) (z : α) (h : Int) : dropR (f z) (mapA f s) h = (mapA f (dropR z s h).1, f (dropR z s h).2.1, (dropR z s h).2.2) := by
  unfold dropR
  rw [find_mapA hs]
  cases hf : find s h with
  | none => rfl
  | some i =>
    rw [Option.bind_some, Option.bind_some, mapA_get]
    cases hy : s.sp[i]? with
    | none => rfl
    | some y =>
      simp only [Option.map_some, dropS_mapA]
theorem rm_map {f : α → β} {s : AS α} (hs : AOk s) (z : α) (h : Int) : rmA (f z) (mapA f s) h = mapA f (rmA z s h) := by
  unfold rmA
  rw [dropR_map hs]
theorem map_ok {f : α → β} {s : AS α} (h : AOk (mapA f s)) : AOk s := by
  refine ⟨h.most0, h.most1, h.first0, h.first1, by simpa [mapA] using h.len, fun y hy => ?_, fun i hi => ?_, h.nd, ?_, by simpa [mapA] using h.bound⟩
  · exact h.g ⟨f y.x, y.g, y.st⟩ (List.mem_map_of_mem (f := fun y : Spot α => (⟨f y.x, y.g, y.st⟩ : Spot β)) hy)
  · obtain ⟨y, hy, h0⟩ := h.fr i hi
    rw [mapA_get] at hy
    obtain ⟨z, hz, rfl⟩ := Option.map_eq_some_iff.1 hy
    exact ⟨z, hz, h0⟩
  · have := h.cnt
    simp only [mapA, List.countP_map] at this
    rw [this]
    rfl
theorem mapA_mapA {γ : Type} (f : α → β) (g : β → γ) (s : AS α) : mapA g (mapA f s) = mapA (fun x => g (f x)) s := by simp [mapA]

/-! ### all that live -/
theorem pay_all {s : AS α} (hs : AOk s) {h : Int} : (∃ e, pay s h = some e) ↔ h ∈ allFrom 0 s.sp := by
  rw [allFrom_live]
  constructor
  · rintro ⟨e, hp⟩
    obtain ⟨p, hp, e1, _⟩ := live_liv.1 ((pay_iff hs).1 hp)
    exact List.mem_map.2 ⟨p, hp, e1.symm⟩
  · intro hm
    obtain ⟨p, hp, e1⟩ := List.mem_map.1 hm
    exact ⟨p.2.x, (pay_iff hs).2 (live_liv.2 ⟨p, hp, e1.symm, rfl⟩)⟩
theorem all_cnt {s : AS α} (hs : AOk s) : (allFrom 0 s.sp).length = s.cnt := by rw [allFrom_length, hs.cnt]
theorem nodup_len : ∀ (l m : List Int), l.Nodup → (∀ a ∈ l, a ∈ m) → l.length ≤ m.length
  | [], m, _, _ => Nat.zero_le _
  | a :: l, m, hn, hm => by
    rw [List.nodup_cons] at hn
    have ha := hm a (.head _)
    have h1 := nodup_len l (m.erase a) hn.2 fun b hb => (List.mem_erase_of_ne (fun e : b = a => hn.1 (e ▸ hb))).2 (hm b (.tail _ hb))
    have h2 := List.length_erase_of_mem ha
    have h3 := List.length_pos_of_mem ha
    rw [List.length_cons]
    omega
theorem nodup_cnt {s : AS α} (hs : AOk s) {l : List Int} (hn : l.Nodup) (hl : ∀ a ∈ l, ∃ e, pay s a = some e) : l.length ≤ s.cnt := by
  rw [← all_cnt hs]
  exact nodup_len l _ hn fun a ha => (pay_all hs).1 (hl a ha)
end
end Go.Proofs.Ytgchemgnmijpdaa
