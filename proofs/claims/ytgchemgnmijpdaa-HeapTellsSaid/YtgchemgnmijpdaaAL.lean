/- What lives in an arena: plain laws. No conditions. -/
import Derived.Test.YtgchemgnmijpdaaAM
set_option linter.unusedVariables false
set_option linter.unusedSimpArgs false
namespace Go.Proofs.Ytgchemgnmijpdaa
open Go.Sp Go.RowKit
variable {α β : Type}

/-! ### arenas that are alike but for what is in them -/
theorem mapA_get {f : α → β} {s : AS α} {i : Nat} : (mapA f s).sp[i]? = (s.sp[i]?).map fun y => ⟨f y.x, y.g, y.st⟩ := by simp [mapA]
theorem AOk.mapA {f : α → β} {s : AS α} (hs : AOk s) : AOk (mapA f s) := by
  refine ⟨hs.most0, hs.most1, hs.first0, hs.first1, by simpa [Proofs.Ytgchemgnmijpdaa.mapA] using hs.len, fun y hy => ?_, fun i hi => ?_, hs.nd, ?_, by simpa [Proofs.Ytgchemgnmijpdaa.mapA] using hs.bound⟩
  · obtain ⟨z, hz, rfl⟩ := List.mem_map.1 hy
    exact hs.g z hz
  · obtain ⟨y, hy, h0⟩ := hs.fr i hi
    exact ⟨_, by rw [mapA_get, hy]; rfl, h0⟩
  · show s.cnt = (s.sp.map _).countP _
    rw [List.countP_map, hs.cnt]
    rfl
theorem find_mapA {f : α → β} {s : AS α} (hs : AOk s) (h : Int) : find (mapA f s) h = find s h := by
  cases hf : find s h with
  | some i =>
    obtain ⟨y, hy, h1, e⟩ := (find_iff hs).1 hf
    exact (find_iff hs.mapA).2 ⟨_, by rw [mapA_get, hy]; rfl, h1, e⟩
  | none =>
    cases hg : find (mapA f s) h with
    | none => rfl
    | some i =>
      obtain ⟨y, hy, h1, e⟩ := (find_iff hs.mapA).1 hg
      rw [mapA_get] at hy
      obtain ⟨z, hz, rfl⟩ := Option.map_eq_some_iff.1 hy
      rw [(find_iff hs).2 ⟨z, hz, h1, e⟩] at hf
      cases hf
theorem put_mapA {f : α → β} {s : AS α} (hs : AOk s) (x : α) : put (mapA f s) (f x) = (mapA f (put s x).1, (put s x).2) := by
  rcases put_cases hs x with ⟨fr, i, y, hfr, hy, hst, hput⟩ | ⟨hfr, hfull, hput⟩ | ⟨hfr, hfull, hput⟩
  · rw [hput]
    have : (mapA f s).fr.getLast? = some i := by simp [mapA, hfr]
    unfold put
    rw [this]
    simp only [mapA_get, hy, Option.map_some]
    simp [mapA, hfr, List.map_set]
  · rw [hput]
    simp [put, mapA, hfr, hfull]
  · rw [hput]
    have : ¬ (s.sp.length : Int) = s.most := by omega
    simp [put, mapA, hfr, this]
theorem dropS_mapA {f : α → β} {s : AS α} (z : α) (i : Nat) : dropS (f z) (mapA f s) i = mapA f (dropS z s i) := by
  unfold dropS
  rw [mapA_get]
  cases hy : s.sp[i]? with
  | none => rfl
  | some y =>
    simp only [Option.map_some]
    split <;> simp [mapA, List.map_set]
theorem liveFrom_mapA (f : α → β) (ys : List (Spot α)) : ∀ i, liveFrom i (ys.map fun y => (⟨f y.x, y.g, y.st⟩ : Spot β)) = (liveFrom i ys).map fun p => (p.1, ⟨f p.2.x, p.2.g, p.2.st⟩) := by
  induction ys with
  | nil => intro i; rfl
  | cons y ys ih =>
    intro i
    rw [List.map_cons, liveFrom, liveFrom, ih]
    split <;> rfl
theorem allFrom_mapA (f : α → β) (s : AS α) (i : Nat) : allFrom i (mapA f s).sp = allFrom i s.sp := by
  rw [allFrom_live, allFrom_live]
  show (liveFrom i (s.sp.map _)).map _ = _
  rw [liveFrom_mapA, List.map_map]
  rfl

/-! ### what lives -/
def Liv (s : AS α) (h : Int) (e : α) : Prop := ∃ i y, s.sp[i]? = some y ∧ y.st = 1 ∧ h = hd i y.g ∧ e = y.x
theorem place_lt {s : AS α} (hs : AOk s) {i : Nat} {y : Spot α} (hy : s.sp[i]? = some y) : i < 4294967295 := by
  have := (List.getElem?_eq_some_iff.1 hy).1
  have := hs.len
  have := hs.most1
  omega
theorem Liv.find {s : AS α} (hs : AOk s) {h : Int} {e : α} : Liv s h e ↔ ∃ i y, find s h = some i ∧ s.sp[i]? = some y ∧ y.x = e := by
  constructor
  · rintro ⟨i, y, hy, h1, rfl, rfl⟩
    exact ⟨i, y, (find_iff hs).2 ⟨y, hy, h1, rfl⟩, hy, rfl⟩
  · rintro ⟨i, y, hf, hy, rfl⟩
    obtain ⟨z, hz, h1, e⟩ := (find_iff hs).1 hf
    rw [hy] at hz
    cases hz
    exact ⟨i, y, hy, h1, e, rfl⟩
theorem Liv.one {s : AS α} (hs : AOk s) {h : Int} {e e' : α} (h1 : Liv s h e) (h2 : Liv s h e') : e = e' := by
  obtain ⟨i, y, hf, hy, rfl⟩ := (Liv.find hs).1 h1
  obtain ⟨j, z, hf', hz, rfl⟩ := (Liv.find hs).1 h2
  rw [hf] at hf'
  cases hf'
  rw [hy] at hz
  cases hz
  rfl
theorem Liv.range {s : AS α} (hs : AOk s) {h : Int} {e : α} (hl : Liv s h e) : 0 < h ∧ h ≤ 18446744073709551615 := by
  obtain ⟨i, y, hy, h1, rfl, rfl⟩ := hl
  have := place_lt hs hy
  have := hs.g y (List.mem_of_getElem? hy)
  unfold hd
  omega
theorem put_liv {s : AS α} (hs : AOk s) {x : α} (he : (put s x).2.2 = 0) {h : Int} {e : α} : Liv (put s x).1 h e ↔ Liv s h e ∨ (h = (put s x).2.1 ∧ e = x) := by
  rcases put_cases hs x with ⟨fr, i, y, hfr, hy, hst, hput⟩ | ⟨hfr, hfull, hput⟩ | ⟨hfr, hfull, hput⟩
  · rw [hput]
    have hlt := (List.getElem?_eq_some_iff.1 hy).1
    constructor
    · rintro ⟨j, z, hz, h1, rfl, rfl⟩
      rcases set_get hz with ⟨rfl, rfl⟩ | ⟨hne, hz⟩
      · exact .inr ⟨rfl, rfl⟩
      · exact .inl ⟨j, z, hz, h1, rfl, rfl⟩
    · rintro (⟨j, z, hz, h1, rfl, rfl⟩ | ⟨rfl, rfl⟩)
      · have hne : i ≠ j := by rintro rfl; rw [hy] at hz; cases hz; omega
        exact ⟨j, z, by show (s.sp.set i _)[j]? = _; rw [List.getElem?_set, if_neg hne]; exact hz, h1, rfl, rfl⟩
      · exact ⟨i, ⟨e, y.g, 1⟩, by show (s.sp.set i _)[i]? = _; simp [hlt], rfl, rfl, rfl⟩
  · rw [hput] at he
    cases he
  · rw [hput]
    constructor
    · rintro ⟨j, z, hz, h1, rfl, rfl⟩
      have hz : (s.sp ++ [⟨x, s.first, 1⟩])[j]? = some z := hz
      rcases Nat.lt_or_ge j s.sp.length with hj | hj
      · rw [List.getElem?_append_left hj] at hz
        exact .inl ⟨j, z, hz, h1, rfl, rfl⟩
      · rw [List.getElem?_append_right hj] at hz
        have h0 : j - s.sp.length = 0 := by
          have := (List.getElem?_eq_some_iff.1 hz).1
          simp at this
          omega
        rw [h0] at hz
        simp at hz
        subst hz
        have : j = s.sp.length := by omega
        subst this
        exact .inr ⟨rfl, rfl⟩
    · rintro (⟨j, z, hz, h1, rfl, rfl⟩ | ⟨rfl, rfl⟩)
      · have hj := (List.getElem?_eq_some_iff.1 hz).1
        exact ⟨j, z, by show (s.sp ++ _)[j]? = _; rw [List.getElem?_append_left hj]; exact hz, h1, rfl, rfl⟩
      · exact ⟨s.sp.length, ⟨e, s.first, 1⟩, by show (s.sp ++ _)[s.sp.length]? = _; simp, rfl, rfl, rfl⟩
theorem put_fresh {s : AS α} (hs : AOk s) {x : α} (he : (put s x).2.2 = 0) {e : α} : ¬ Liv s (put s x).2.1 e := by
  rintro ⟨j, z, hz, h1, hh, rfl⟩
  have hj := place_lt hs hz
  have hjl := (List.getElem?_eq_some_iff.1 hz).1
  rcases put_cases hs x with ⟨fr, i, y, hfr, hy, hst, hput⟩ | ⟨hfr, hfull, hput⟩ | ⟨hfr, hfull, hput⟩
  · rw [hput] at hh
    obtain ⟨rfl, _⟩ := hd_inj (place_lt hs hy) hj hh
    rw [hy] at hz
    cases hz
    omega
  · rw [hput] at he
    cases he
  · rw [hput] at hh
    have := hs.len
    have := hs.most1
    obtain ⟨rfl, _⟩ := hd_inj (by omega) hj hh
    omega
theorem put_same {s : AS α} (hs : AOk s) {x : α} (he : (put s x).2.2 ≠ 0) : (put s x) = (s, 0, 3) := by
  rcases put_cases hs x with ⟨fr, i, y, hfr, hy, hst, hput⟩ | ⟨hfr, hfull, hput⟩ | ⟨hfr, hfull, hput⟩
  · rw [hput] at he; exact absurd rfl he
  · exact hput
  · rw [hput] at he; exact absurd rfl he
theorem drop_liv {z : α} {s : AS α} (hs : AOk s) {i : Nat} {y : Spot α} (hy : s.sp[i]? = some y) (h1 : y.st = 1) {h : Int} {e : α} : Liv (dropS z s i) h e ↔ Liv s h e ∧ h ≠ hd i y.g := by
  have hlt := (List.getElem?_eq_some_iff.1 hy).1
  have key : ∀ v : Spot α, v.st ≠ 1 → ((∃ j u, (s.sp.set i v)[j]? = some u ∧ u.st = 1 ∧ h = hd j u.g ∧ e = u.x) ↔ Liv s h e ∧ h ≠ hd i y.g) := by
    intro v hv
    constructor
    · rintro ⟨j, u, hu, hu1, rfl, rfl⟩
      rcases set_get hu with ⟨rfl, rfl⟩ | ⟨hne, hu⟩
      · exact absurd hu1 hv
      · exact ⟨⟨j, u, hu, hu1, rfl, rfl⟩, fun e => hne (hd_inj (place_lt hs hu) (place_lt hs hy) e).1⟩
    · rintro ⟨⟨j, u, hu, hu1, rfl, rfl⟩, hne⟩
      have hij : i ≠ j := by
        rintro rfl
        rw [hy] at hu
        cases hu
        exact hne rfl
      exact ⟨j, u, by rw [List.getElem?_set, if_neg hij]; exact hu, hu1, rfl, rfl⟩
  rcases drop_cases (z := z) hy with ⟨_, hd⟩ | ⟨_, hd⟩
  · rw [hd]; exact key _ (by simp)
  · rw [hd]; exact key _ (by simp)
theorem drop_cnt {z : α} {s : AS α} (hs : AOk s) {i : Nat} {y : Spot α} (hy : s.sp[i]? = some y) (h1 : y.st = 1) : (dropS z s i).cnt + 1 = s.cnt := by
  have hp := count_pos (P := fun z : Spot α => z.st == 1) hy (by simp [h1])
  have := hs.cnt
  rcases drop_cases (z := z) hy with ⟨_, hd⟩ | ⟨_, hd⟩ <;> rw [hd] <;> dsimp only <;> omega
theorem put_cnt {s : AS α} (hs : AOk s) {x : α} (he : (put s x).2.2 = 0) : (put s x).1.cnt = s.cnt + 1 := by
  rcases put_cases hs x with ⟨fr, i, y, hfr, hy, hst, hput⟩ | ⟨hfr, hfull, hput⟩ | ⟨hfr, hfull, hput⟩
  · rw [hput]
  · rw [hput] at he; cases he
  · rw [hput]
theorem live_liv {s : AS α} {h : Int} {e : α} : Liv s h e ↔ ∃ p ∈ liveFrom 0 s.sp, h = hd p.1 p.2.g ∧ e = p.2.x := by
  constructor
  · rintro ⟨i, y, hy, h1, rfl, rfl⟩
    refine ⟨(i, y), ?_, rfl, rfl⟩
    have key : ∀ (ys : List (Spot α)) (k j : Nat), ys[j]? = some y → (k + j, y) ∈ liveFrom k ys := by
      intro ys
      induction ys with
      | nil => intro k j h; simp at h
      | cons z ys ih =>
        intro k j h
        rw [liveFrom]
        cases j with
        | zero => simp at h; subst h; rw [if_pos h1]; exact .head _
        | succ j =>
          have := ih (k + 1) j (by simpa using h)
          rw [show k + 1 + j = k + (j + 1) by omega] at this
          split
          · exact .tail _ this
          · exact this
    simpa using key s.sp 0 i hy
  · rintro ⟨p, hp, rfl, rfl⟩
    obtain ⟨j, hj⟩ := List.mem_iff_getElem?.1 hp
    obtain ⟨_, h2, h3⟩ := liveFrom_get _ _ _ _ hj
    exact ⟨p.1, p.2, by simpa using h2, h3, rfl, rfl⟩
theorem live_nodup (ys : List (Spot α)) (i : Nat) : ((liveFrom i ys).map (·.1)).Nodup := by
  induction ys generalizing i with
  | nil => simp [liveFrom]
  | cons y ys ih =>
    rw [liveFrom]
    split
    · rw [List.map_cons, List.nodup_cons]
      refine ⟨fun hm => ?_, ih _⟩
      obtain ⟨p, hp, e⟩ := List.mem_map.1 hm
      obtain ⟨j, hj⟩ := List.mem_iff_getElem?.1 hp
      have := (liveFrom_get _ _ _ _ hj).1
      omega
    · exact ih _

/-! ### dropping all that are so -/
def dropAll (z : α) (q : α → Bool) (s : AS α) (l : List (Nat × Spot α)) : AS α × List α :=
  l.foldl (fun r p => if q p.2.x then (dropS z r.1 p.1, r.2 ++ [p.2.x]) else r) (s, [])
theorem dropAll_snoc {z : α} {q : α → Bool} {s : AS α} {l : List (Nat × Spot α)} {p : Nat × Spot α} :
    dropAll z q s (l ++ [p]) = if q p.2.x then (dropS z (dropAll z q s l).1 p.1, (dropAll z q s l).2 ++ [p.2.x]) else dropAll z q s l := by
  simp [dropAll, List.foldl_append]
theorem dropAll_snd {z : α} {q : α → Bool} {s : AS α} (l : List (Nat × Spot α)) : (dropAll z q s l).2 = (l.filter fun p => q p.2.x).map (·.2.x) := by
  obtain ⟨n, hn⟩ : ∃ n, n = l.length := ⟨_, rfl⟩
  induction n generalizing l with
  | zero => have : l = [] := List.eq_nil_of_length_eq_zero hn.symm; subst this; rfl
  | succ n ih =>
    rcases List.eq_nil_or_concat l with rfl | ⟨l', p, rfl⟩
    · simp at hn
    · rw [List.concat_eq_append] at hn ⊢
      have := ih l' (by simp at hn; omega)
      rw [dropAll_snoc]
      split
      · rename_i hq; simp [this, hq]
      · rename_i hq; simp [this, hq]
/-- A part has been gone over: what comes still is as it was. -/
theorem dropAll_ok {z : α} {q : α → Bool} {s : AS α} (hs : AOk s) (rest : List (Nat × Spot α)) : ∀ (n : Nat) (l : List (Nat × Spot α)), l.length = n → ((l ++ rest).map (·.1)).Nodup → (∀ p ∈ l ++ rest, s.sp[p.1]? = some p.2 ∧ p.2.st = 1) →
    AOk (dropAll z q s l).1 ∧ (dropAll z q s l).1.most = s.most ∧ (∀ p ∈ rest, (dropAll z q s l).1.sp[p.1]? = some p.2) ∧ (∀ h e, Liv (dropAll z q s l).1 h e ↔ Liv s h e ∧ ∀ p ∈ l, q p.2.x = true → h ≠ hd p.1 p.2.g) := by
  intro n
  induction n generalizing rest with
  | zero =>
    intro l hl _ hp
    have : l = [] := List.eq_nil_of_length_eq_zero hl
    subst this
    exact ⟨hs, rfl, fun p hm => (hp p (by simpa using hm)).1, fun h e => by simp [dropAll]⟩
  | succ n ih =>
    intro l hl hnd hp
    rcases List.eq_nil_or_concat l with rfl | ⟨l', p, rfl⟩
    · simp at hl
    · rw [List.concat_eq_append] at hl hnd hp ⊢
      have e1 : l' ++ [p] ++ rest = l' ++ (p :: rest) := by simp
      rw [e1] at hnd hp
      obtain ⟨h1, h2, h3, h4⟩ := ih (p :: rest) l' (by simpa using hl) hnd hp
      rw [dropAll_snoc]
      split
      · rename_i hq
        have hpy := h3 p (.head _)
        have hp1 := (hp p (by simp)).2
        refine ⟨h1.drop hpy hp1, (dropS_most hpy).trans h2, fun r hr => ?_, fun h e => ?_⟩
        · have hne : p.1 ≠ r.1 := by
            rw [List.map_append, List.map_cons] at hnd
            have := (List.nodup_append.1 hnd).2.1
            rw [List.nodup_cons] at this
            exact fun e => this.1 (List.mem_map.2 ⟨r, hr, e.symm⟩)
          have hr3 := h3 r (.tail _ hr)
          rcases drop_cases (z := z) hpy with ⟨_, hd⟩ | ⟨_, hd⟩ <;> rw [hd] <;> (show ((dropAll z q s l').1.sp.set p.1 _)[r.1]? = _) <;> (rw [List.getElem?_set, if_neg hne]; exact hr3)
        · rw [drop_liv h1 hpy hp1, h4]
          constructor
          · rintro ⟨⟨ha, hb⟩, hc⟩
            refine ⟨ha, fun r hr hqr => ?_⟩
            rcases List.mem_append.1 hr with hr | hr
            · exact hb r hr hqr
            · rw [List.mem_singleton] at hr; subst hr; exact hc
          · rintro ⟨ha, hb⟩
            exact ⟨⟨ha, fun r hr => hb r (by simp [hr])⟩, hb p (by simp) hq⟩
      · rename_i hq
        refine ⟨h1, h2, fun r hr => h3 r (.tail _ hr), fun h e => ?_⟩
        rw [h4]
        constructor
        · rintro ⟨ha, hb⟩
          refine ⟨ha, fun r hr hqr => ?_⟩
          rcases List.mem_append.1 hr with hr | hr
          · exact hb r hr hqr
          · rw [List.mem_singleton] at hr; subst hr; exact absurd hqr hq
        · rintro ⟨ha, hb⟩
          exact ⟨ha, fun r hr => hb r (by simp [hr])⟩
theorem live_get {s : AS α} : ∀ p ∈ liveFrom 0 s.sp, s.sp[p.1]? = some p.2 ∧ p.2.st = 1 := by
  intro p hp
  obtain ⟨j, hj⟩ := List.mem_iff_getElem?.1 hp
  obtain ⟨_, h2, h3⟩ := liveFrom_get _ _ _ _ hj
  exact ⟨by simpa using h2, h3⟩
end Go.Proofs.Ytgchemgnmijpdaa
