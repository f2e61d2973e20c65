/- Weak tables: plain laws. No conditions. -/
import Derived.Test.YtiogdefiokmmkaaAG
import Derived.Test.YtiogdefiokmmkaaAR
import Derived.Test.YtiogdefiokmmkaaSpM
set_option linter.unusedVariables false
set_option linter.unusedSimpArgs false
namespace Go.Proofs.Ytiogdefiokmmkaa
open Go.Sp Go.RowKit

/-! ### turning what is in a spot -/
section
variable {α β : Type}
def setX (s : AS α) (i : Nat) (x : α) : AS α := match s.sp[i]? with | some y => { s with sp := s.sp.set i ⟨x, y.g, y.st⟩ } | none => s
theorem setX_eq {s : AS α} {i : Nat} {x : α} {y : Spot α} (hy : s.sp[i]? = some y) : setX s i x = { s with sp := s.sp.set i ⟨x, y.g, y.st⟩ } := by simp [setX, hy]
theorem setX_unit {s : AS α} {i : Nat} {x : α} {f : α → β} (h : ∀ y, s.sp[i]? = some y → f x = f y.x) : mapA f (setX s i x) = mapA f s := by
  unfold setX
  cases hy : s.sp[i]? with
  | none => rfl
  | some y =>
    show AS.mk _ _ _ _ _ = AS.mk _ _ _ _ _
    congr 1
    show (s.sp.set i _).map _ = s.sp.map _
    apply List.ext_getElem?
    intro j
    rw [List.getElem?_map, List.getElem?_map, List.getElem?_set]
    split
    · rename_i e
      subst e
      rw [hy, if_pos (List.getElem?_eq_some_iff.1 hy).1]
      simp [h y hy]
    · rfl
theorem AOk.setX {s : AS α} (hs : AOk s) {i : Nat} (x : α) : AOk (setX s i x) := by
  unfold Proofs.Ytiogdefiokmmkaa.setX
  cases hy : s.sp[i]? with
  | none => exact hs
  | some y =>
    have hlt := (List.getElem?_eq_some_iff.1 hy).1
    refine ⟨hs.most0, hs.most1, hs.first0, hs.first1, by simpa using hs.len, fun z hz => ?_, fun j hj => ?_, hs.nd, ?_, by simpa using hs.bound⟩
    · rcases List.mem_or_eq_of_mem_set hz with hz | rfl
      · exact hs.g z hz
      · exact hs.g y (List.mem_of_getElem? hy)
    · obtain ⟨z, hz, h0⟩ := hs.fr j hj
      by_cases e : i = j
      · subst e
        rw [hy] at hz
        cases hz
        exact ⟨⟨x, y.g, y.st⟩, by simp [hlt], h0⟩
      · exact ⟨z, by show (s.sp.set i _)[j]? = _; rw [List.getElem?_set, if_neg e]; exact hz, h0⟩
    · show s.cnt = (s.sp.set i _).countP _
      rw [hs.cnt]
      have : s.sp.countP (·.st == 1) = (s.sp.map (·.st)).countP (· == 1) := by rw [List.countP_map]; rfl
      rw [this]
      have e2 : (s.sp.set i ⟨x, y.g, y.st⟩).countP (·.st == 1) = ((s.sp.set i ⟨x, y.g, y.st⟩).map (·.st)).countP (· == 1) := by rw [List.countP_map]; rfl
      rw [e2]
      congr 1
      apply List.ext_getElem?
      intro j
      rw [List.getElem?_map, List.getElem?_map, List.getElem?_set]
      split
      · rename_i e
        subst e
        rw [hy]
        rfl
      · rfl
theorem liv_setX {s : AS α} (hs : AOk s) {i : Nat} {x : α} {y : Spot α} (hy : s.sp[i]? = some y) (h1 : y.st = 1) {h : Int} {e : α} : Liv (setX s i x) h e ↔ (h = hd i y.g ∧ e = x) ∨ (Liv s h e ∧ h ≠ hd i y.g) := by
  rw [setX_eq hy]
  have hlt := (List.getElem?_eq_some_iff.1 hy).1
  constructor
  · rintro ⟨j, u, hu, hu1, rfl, rfl⟩
    rcases set_get hu with ⟨rfl, rfl⟩ | ⟨hne, hu⟩
    · exact .inl ⟨rfl, rfl⟩
    · exact .inr ⟨⟨j, u, hu, hu1, rfl, rfl⟩, fun e => hne (hd_inj (place_lt hs hu) (place_lt hs hy) e).1⟩
  · rintro (⟨rfl, rfl⟩ | ⟨⟨j, u, hu, hu1, rfl, rfl⟩, hne⟩)
    · exact ⟨i, ⟨e, y.g, y.st⟩, by show (s.sp.set i _)[i]? = _; simp [hlt], h1, rfl, rfl⟩
    · have hij : i ≠ j := by
        rintro rfl
        rw [hy] at hu
        cases hu
        exact hne rfl
      exact ⟨j, u, by show (s.sp.set i _)[j]? = _; rw [List.getElem?_set, if_neg hij]; exact hu, hu1, rfl, rfl⟩
end

/-! ### blocks -/
structure WB where
  tg : Int
  dead : Bool
  cn : Int
abbrev WP := Option (Nat × WB)
abbrev WS := AS WP
def pt (x : WP) : Pay := x.map (·.1)
def wbF (b : WB) : Array Value := #[.int .u64 b.tg, .bool b.dead, .int .u32 b.cn]
def starH (x : WP) : HP := match x with | some p => blk p.1 (wbF p.2) T_weak_block | none => emp
def stars : List (Spot WP) → HP
  | [] => emp
  | y :: ys => starH y.x * stars ys
theorem stars_pull {ys : List (Spot WP)} {i : Nat} {y : Spot WP} (h : ys[i]? = some y) : stars ys = starH y.x * stars (ys.eraseIdx i) := by
  induction ys generalizing i with
  | nil => simp at h
  | cons z ys ih =>
    cases i with
    | zero => simp at h; subst h; rfl
    | succ i =>
      rw [List.eraseIdx_cons_succ, stars, stars, ih (by simpa using h)]
      ac_rfl
theorem stars_set {ys : List (Spot WP)} {i : Nat} {z : Spot WP} (h : i < ys.length) : stars (ys.set i z) = starH z.x * stars (ys.eraseIdx i) := by
  have e := stars_pull (ys := ys.set i z) (i := i) (y := z) (by simp [h])
  rw [e]
  congr 2
  apply List.ext_getElem?
  intro j
  rw [List.getElem?_eraseIdx, List.getElem?_eraseIdx]
  split
  · rw [List.getElem?_set, if_neg (by omega)]
  · rw [List.getElem?_set, if_neg (by omega)]
theorem stars_snoc {ys : List (Spot WP)} {z : Spot WP} : stars (ys ++ [z]) = starH z.x * stars ys := by
  induction ys with
  | nil => rfl
  | cons y ys ih => rw [List.cons_append, stars, stars, ih]; ac_rfl

structure Spt (s : WS) (h : Int) (i : Nat) (y : Spot WP) (k : Nat) (b : WB) : Prop where
  get : s.sp[i]? = some y
  st : y.st = 1
  hd : h = hd i y.g
  pay : y.x = some (k, b)
def Bl (s : WS) (h : Int) (b : WB) : Prop := ∃ k, Liv s h (some (k, b))
theorem Spt.bl {s : WS} {h i y k b} (p : Spt s h i y k b) : Bl s h b := ⟨k, i, y, p.get, p.st, p.hd, p.pay.symm⟩
theorem Spt.fnd {s : WS} {h i y k b} (hs : AOk s) (p : Spt s h i y k b) : find s h = some i := (find_iff hs).2 ⟨y, p.get, p.st, p.hd⟩
theorem Bl.spt {s : WS} {h b} (p : Bl s h b) : ∃ i y k, Spt s h i y k b := by
  obtain ⟨k, i, y, h1, h2, h3, h4⟩ := p
  exact ⟨i, y, k, h1, h2, h3, h4.symm⟩
structure WOk (N : Int) (s : WS) : Prop where
  ok : AOk s
  pay : ∀ y ∈ s.sp, y.st = 1 → ∃ k b, y.x = some (k, b) ∧ 1 ≤ b.cn ∧ b.cn ≤ N ∧ 0 ≤ b.tg ∧ b.tg ≤ 18446744073709551615
theorem WOk.mono {N M : Int} {s : WS} (h : WOk N s) (hm : N ≤ M) : WOk M s := ⟨h.ok, fun y hy h1 => by
  obtain ⟨k, b, h1, h2, h3, h4⟩ := h.pay y hy h1
  exact ⟨k, b, h1, h2, by omega, h4⟩⟩
theorem WOk.rng {N : Int} {s : WS} (hs : WOk N s) {h i y k b} (p : Spt s h i y k b) : 1 ≤ b.cn ∧ b.cn ≤ N ∧ 0 ≤ b.tg ∧ b.tg ≤ 18446744073709551615 := by
  obtain ⟨k', b', h1, h2, h3, h4⟩ := hs.pay y (List.mem_of_getElem? p.get) p.st
  rw [p.pay] at h1
  cases h1
  exact ⟨h2, h3, h4⟩
theorem WOk.cases {N : Int} {s : WS} (hs : WOk N s) (h : Int) : (find s h = none ∧ ∀ b, ¬ Bl s h b) ∨ ∃ i y k b, Spt s h i y k b := by
  cases hf : find s h with
  | none =>
    refine .inl ⟨rfl, fun b hb => ?_⟩
    obtain ⟨i, y, k, p⟩ := hb.spt
    rw [p.fnd hs.ok] at hf
    cases hf
  | some i =>
    obtain ⟨y, hy, h1, e⟩ := (find_iff hs.ok).1 hf
    obtain ⟨k, b, hx, _⟩ := hs.pay y (List.mem_of_getElem? hy) h1
    exact .inr ⟨i, y, k, b, hy, h1, e, hx⟩
theorem Bl.one {s : WS} (hs : AOk s) {h : Int} {b b' : WB} (h1 : Bl s h b) (h2 : Bl s h b') : b = b' := by
  obtain ⟨k, h1⟩ := h1
  obtain ⟨k', h2⟩ := h2
  have := Liv.one hs h1 h2
  cases this
  rfl
theorem Bl.range {s : WS} (hs : AOk s) {h : Int} {b : WB} (h1 : Bl s h b) : 0 < h ∧ h ≤ 18446744073709551615 := by
  obtain ⟨k, h1⟩ := h1
  exact h1.range hs
theorem bl_setX {N : Int} {s : WS} (hs : WOk N s) {h i y k b} (p : Spt s h i y k b) {b' c : WB} {h' : Int} : Bl (setX s i (some (k, b'))) h' c ↔ (h' = h ∧ c = b') ∨ (Bl s h' c ∧ h' ≠ h) := by
  unfold Bl
  constructor
  · rintro ⟨k', hl⟩
    rcases (liv_setX hs.ok p.get p.st).1 hl with ⟨e, e2⟩ | ⟨hl, hne⟩
    · cases e2
      exact .inl ⟨e.trans p.hd.symm, rfl⟩
    · exact .inr ⟨⟨_, hl⟩, by rw [p.hd]; exact hne⟩
  · rintro (⟨rfl, rfl⟩ | ⟨⟨k', hl⟩, hne⟩)
    · exact ⟨k, (liv_setX hs.ok p.get p.st).2 (.inl ⟨p.hd, rfl⟩)⟩
    · exact ⟨k', (liv_setX hs.ok p.get p.st).2 (.inr ⟨hl, by rw [← p.hd]; exact hne⟩)⟩
theorem bl_drop {N : Int} {s : WS} (hs : WOk N s) {h i y k b} (p : Spt s h i y k b) {c : WB} {h' : Int} : Bl (dropS none s i) h' c ↔ Bl s h' c ∧ h' ≠ h := by
  unfold Bl
  constructor
  · rintro ⟨k', hl⟩
    obtain ⟨hl, hne⟩ := (drop_liv hs.ok p.get p.st).1 hl
    exact ⟨⟨_, hl⟩, by rw [p.hd]; exact hne⟩
  · rintro ⟨⟨k', hl⟩, hne⟩
    exact ⟨k', (drop_liv hs.ok p.get p.st).2 ⟨hl, by rw [← p.hd]; exact hne⟩⟩
theorem bl_put {s : WS} (hs : AOk s) {k : Nat} {b c : WB} {h : Int} (he : (put s (some (k, b))).2.2 = 0) : Bl (put s (some (k, b))).1 h c ↔ Bl s h c ∨ (h = (put s (some (k, b))).2.1 ∧ c = b) := by
  unfold Bl
  constructor
  · rintro ⟨k', hl⟩
    rcases (put_liv hs he).1 hl with hl | ⟨e, e2⟩
    · exact .inl ⟨_, hl⟩
    · cases e2
      exact .inr ⟨e, rfl⟩
  · rintro (⟨k', hl⟩ | ⟨rfl, rfl⟩)
    · exact ⟨k', (put_liv hs he).2 (.inl hl)⟩
    · exact ⟨k, (put_liv hs he).2 (.inr ⟨rfl, rfl⟩)⟩
theorem bl_fresh {s : WS} (hs : AOk s) {k : Nat} {b c : WB} (he : (put s (some (k, b))).2.2 = 0) : ¬ Bl s (put s (some (k, b))).2.1 c := fun ⟨_, h⟩ => put_fresh hs he h
theorem WOk.setX {N M : Int} {s : WS} (hs : WOk N s) {h i y k b} (p : Spt s h i y k b) {b' : WB} (hm : N ≤ M) (h1 : 1 ≤ b'.cn) (h2 : b'.cn ≤ M) (h3 : b'.tg = b.tg) : WOk M (setX s i (some (k, b'))) := by
  refine ⟨hs.ok.setX _, fun z hz hz1 => ?_⟩
  rw [setX_eq p.get] at hz
  rcases List.mem_or_eq_of_mem_set hz with hz | rfl
  · exact (hs.mono hm).pay z hz hz1
  · have := hs.rng p
    exact ⟨k, b', rfl, h1, h2, by omega, by omega⟩
theorem WOk.drop {N : Int} {s : WS} (hs : WOk N s) {h i y k b} (p : Spt s h i y k b) : WOk N (dropS none s i) := by
  refine ⟨hs.ok.drop p.get p.st, fun z hz hz1 => ?_⟩
  rcases drop_cases (z := (none : WP)) p.get with ⟨_, hd⟩ | ⟨_, hd⟩ <;> rw [hd] at hz <;> (rcases List.mem_or_eq_of_mem_set hz with hz | rfl)
  · exact hs.pay z hz hz1
  · cases hz1
  · exact hs.pay z hz hz1
  · cases hz1
theorem WOk.put {N : Int} {s : WS} (hs : WOk N s) {k : Nat} {b : WB} (h1 : 1 ≤ b.cn) (h2 : b.cn ≤ N) (h3 : 0 ≤ b.tg) (h4 : b.tg ≤ 18446744073709551615) : WOk N (put s (some (k, b))).1 := by
  refine ⟨hs.ok.put _, fun z hz hz1 => ?_⟩
  rcases put_cases hs.ok (some (k, b)) with ⟨fr, i, y, hfr, hy, hst, hput⟩ | ⟨hfr, hfull, hput⟩ | ⟨hfr, hfull, hput⟩ <;> rw [hput] at hz
  · rcases List.mem_or_eq_of_mem_set hz with hz | rfl
    · exact hs.pay z hz hz1
    · exact ⟨k, b, rfl, h1, h2, h3, h4⟩
  · exact hs.pay z hz hz1
  · rcases List.mem_append.1 hz with hz | hz
    · exact hs.pay z hz hz1
    · rw [List.mem_singleton] at hz
      subst hz
      exact ⟨k, b, rfl, h1, h2, h3, h4⟩

/-! ### what the table's map tells -/
def FRel (f : Int → Option Int) (s : WS) : Prop := ∀ t h, f t = some h ↔ ∃ b, Bl s h b ∧ b.tg = t ∧ b.dead = false
theorem FRel.none_ {f : Int → Option Int} {s : WS} (hf : FRel f s) {t : Int} : f t = none ↔ ∀ h b, Bl s h b → b.tg = t → b.dead = false → False := by
  constructor
  · intro e h b hb h1 h2
    have := (hf t h).2 ⟨b, hb, h1, h2⟩
    rw [e] at this
    cases this
  · intro hn
    cases e : f t with
    | none => rfl
    | some h =>
      obtain ⟨b, hb, h1, h2⟩ := (hf t h).1 e
      exact (hn h b hb h1 h2).elim
theorem FRel.count {f : Int → Option Int} {N : Int} {s : WS} (hf : FRel f s) (hs : WOk N s) {h i y k b} (p : Spt s h i y k b) {b' : WB} (h3 : b'.tg = b.tg) (h4 : b'.dead = b.dead) : FRel f (setX s i (some (k, b'))) := by
  intro t h'
  rw [hf]
  constructor
  · rintro ⟨c, hc, h1, h2⟩
    by_cases e : h' = h
    · subst e
      obtain rfl := Bl.one hs.ok hc p.bl
      exact ⟨b', (bl_setX hs p).2 (.inl ⟨rfl, rfl⟩), by rw [h3]; exact h1, by rw [h4]; exact h2⟩
    · exact ⟨c, (bl_setX hs p).2 (.inr ⟨hc, e⟩), h1, h2⟩
  · rintro ⟨c, hc, h1, h2⟩
    rcases (bl_setX hs p).1 hc with ⟨rfl, rfl⟩ | ⟨hc, _⟩
    · exact ⟨b, p.bl, h3.symm.trans h1, h4.symm.trans h2⟩
    · exact ⟨c, hc, h1, h2⟩
theorem FRel.die {f : Int → Option Int} {N : Int} {s : WS} (hf : FRel f s) (hs : WOk N s) {h i y k b} (p : Spt s h i y k b) (h1 : b.dead = false) {b' : WB} (h2 : b'.dead = true) : FRel (upd f b.tg none) (setX s i (some (k, b'))) := by
  intro t h'
  unfold upd
  split
  · rename_i e
    subst e
    constructor
    · intro h; cases h
    · rintro ⟨c, hc, e1, e2⟩
      rcases (bl_setX hs p).1 hc with ⟨rfl, rfl⟩ | ⟨hc, hne⟩
      · rw [h2] at e2; cases e2
      · have a1 := (hf b.tg h').2 ⟨c, hc, e1, e2⟩
        rw [(hf b.tg h).2 ⟨b, p.bl, rfl, h1⟩] at a1
        exact absurd (Option.some.inj a1).symm hne
  · rename_i ht
    rw [hf]
    constructor
    · rintro ⟨c, hc, e1, e2⟩
      have : h' ≠ h := by
        rintro rfl
        obtain rfl := Bl.one hs.ok hc p.bl
        exact ht e1.symm
      exact ⟨c, (bl_setX hs p).2 (.inr ⟨hc, this⟩), e1, e2⟩
    · rintro ⟨c, hc, e1, e2⟩
      rcases (bl_setX hs p).1 hc with ⟨rfl, rfl⟩ | ⟨hc, _⟩
      · rw [h2] at e2; cases e2
      · exact ⟨c, hc, e1, e2⟩
theorem FRel.dropDead {f : Int → Option Int} {N : Int} {s : WS} (hf : FRel f s) (hs : WOk N s) {h i y k b} (p : Spt s h i y k b) (h1 : b.dead = true) : FRel f (dropS none s i) := by
  intro t h'
  rw [hf]
  constructor
  · rintro ⟨c, hc, e1, e2⟩
    refine ⟨c, (bl_drop hs p).2 ⟨hc, ?_⟩, e1, e2⟩
    rintro rfl
    obtain rfl := Bl.one hs.ok hc p.bl
    rw [h1] at e2
    cases e2
  · rintro ⟨c, hc, e1, e2⟩
    exact ⟨c, ((bl_drop hs p).1 hc).1, e1, e2⟩
theorem FRel.dropLive {f : Int → Option Int} {N : Int} {s : WS} (hf : FRel f s) (hs : WOk N s) {h i y k b} (p : Spt s h i y k b) (h1 : b.dead = false) : FRel (upd f b.tg none) (dropS none s i) := by
  intro t h'
  unfold upd
  split
  · rename_i e
    subst e
    constructor
    · intro h; cases h
    · rintro ⟨c, hc, e1, e2⟩
      obtain ⟨hc, hne⟩ := (bl_drop hs p).1 hc
      have a1 := (hf b.tg h').2 ⟨c, hc, e1, e2⟩
      rw [(hf b.tg h).2 ⟨b, p.bl, rfl, h1⟩] at a1
      exact absurd (Option.some.inj a1).symm hne
  · rename_i ht
    rw [hf]
    constructor
    · rintro ⟨c, hc, e1, e2⟩
      refine ⟨c, (bl_drop hs p).2 ⟨hc, ?_⟩, e1, e2⟩
      rintro rfl
      obtain rfl := Bl.one hs.ok hc p.bl
      exact ht e1.symm
    · rintro ⟨c, hc, e1, e2⟩
      exact ⟨c, ((bl_drop hs p).1 hc).1, e1, e2⟩
theorem FRel.put {f : Int → Option Int} {N : Int} {s : WS} (hf : FRel f s) (hs : WOk N s) {k : Nat} {b : WB} (hn : ∀ h c, Bl s h c → c.tg = b.tg → c.dead = false → False) (h1 : b.dead = false) (he : (put s (some (k, b))).2.2 = 0) : FRel (upd f b.tg (some (put s (some (k, b))).2.1)) (put s (some (k, b))).1 := by
  intro t h'
  unfold upd
  split
  · rename_i e
    subst e
    constructor
    · intro h
      cases h
      exact ⟨b, (bl_put hs.ok he).2 (.inr ⟨rfl, rfl⟩), rfl, h1⟩
    · rintro ⟨c, hc, e1, e2⟩
      rcases (bl_put hs.ok he).1 hc with hc | ⟨rfl, rfl⟩
      · exact (hn _ _ hc e1 e2).elim
      · rfl
  · rename_i ht
    rw [hf]
    constructor
    · rintro ⟨c, hc, e1, e2⟩
      exact ⟨c, (bl_put hs.ok he).2 (.inl hc), e1, e2⟩
    · rintro ⟨c, hc, e1, e2⟩
      rcases (bl_put hs.ok he).1 hc with hc | ⟨rfl, rfl⟩
      · exact ⟨c, hc, e1, e2⟩
      · exact absurd e1.symm ht

/-! ### what a call does -/
def NoLive (s : WS) (t : Int) : Prop := ∀ h b, Bl s h b → b.tg = t → b.dead = false → False
inductive OfR (s : WS) (t : Int) : WS → Int → Int → Prop
  | old {h i y k b} : Spt s h i y k b → b.tg = t → b.dead = false → OfR s t (setX s i (some (k, { b with cn := b.cn + 1 }))) h 0
  | new (k : Nat) : NoLive s t → OfR s t (put s (some (k, ⟨t, false, 1⟩))).1 (put s (some (k, ⟨t, false, 1⟩))).2.1 (put s (some (k, ⟨t, false, 1⟩))).2.2
inductive UpR (s : WS) (h : Int) : WS → Int → Int → Prop
  | no : (∀ b, ¬ Bl s h b) → UpR s h s 0 2
  | yes {i y k b} : Spt s h i y k b → UpR s h (setX s i (some (k, { b with cn := b.cn + 1 }))) (b.cn + 1) 0
inductive DownR (s : WS) (h : Int) : WS → Int → Int → Prop
  | no : (∀ b, ¬ Bl s h b) → DownR s h s 0 2
  | last {i y k b} : Spt s h i y k b → b.cn = 1 → DownR s h (dropS none s i) 0 0
  | more {i y k b} : Spt s h i y k b → b.cn ≠ 1 → DownR s h (setX s i (some (k, { b with cn := b.cn - 1 }))) (b.cn - 1) 0
inductive DieR (s : WS) (t : Int) : WS → Bool → Prop
  | no : NoLive s t → DieR s t s false
  | yes {h i y k b} : Spt s h i y k b → b.tg = t → b.dead = false → DieR s t (setX s i (some (k, { b with dead := true }))) true
inductive LockR (s : WS) (h : Int) : Int → Int → Prop
  | no : (∀ b, ¬ Bl s h b) → LockR s h 0 2
  | dead {b} : Bl s h b → b.dead = true → LockR s h 0 10
  | live {b} : Bl s h b → b.dead = false → LockR s h b.tg 0
end Go.Proofs.Ytiogdefiokmmkaa
