/- Weak: the document's example, WeakNil, acts. No conditions. -/
import Derived.Test.YtiogdefiokmmkaaWK4
import Derived.Test.YtiogdefiokmmkaaOp
set_option linter.unusedVariables false
set_option linter.unusedSimpArgs false
set_option maxRecDepth 100000
namespace Go.Proofs.Ytiogdefiokmmkaa
open Go.Sp Go.RowKit

theorem setX_len {α : Type} {s : AS α} {i : Nat} {x : α} : (setX s i x).sp.length = s.sp.length ∧ (setX s i x).most = s.most := by
  unfold setX
  cases hy : s.sp[i]? <;> simp
theorem drop_len {α : Type} {z : α} {s : AS α} {i : Nat} {y : Spot α} (hy : s.sp[i]? = some y) : (dropS z s i).sp.length = s.sp.length ∧ (dropS z s i).most = s.most := by
  rcases drop_cases (z := z) hy with ⟨_, hd⟩ | ⟨_, hd⟩ <;> rw [hd] <;> simp
theorem put_len {α : Type} {s : AS α} (hs : AOk s) (x : α) : (put s x).1.sp.length ≤ s.sp.length + 1 ∧ (put s x).1.most = s.most := by
  rcases put_cases hs x with ⟨fr, i, y, hfr, hy, hst, hput⟩ | ⟨hfr, hfull, hput⟩ | ⟨hfr, hfull, hput⟩ <;> rw [hput] <;> simp
theorem put_room {α : Type} {s : AS α} (hs : AOk s) (x : α) (h : (s.sp.length : Int) < s.most) : (put s x).2.2 = 0 := by
  rcases put_cases hs x with ⟨fr, i, y, hfr, hy, hst, hput⟩ | ⟨hfr, hfull, hput⟩ | ⟨hfr, hfull, hput⟩ <;> rw [hput]
  omega
theorem OfR.len {s s' : WS} {t h e : Int} (hs : AOk s) (hO : OfR s t s' h e) : s'.sp.length ≤ s.sp.length + 1 ∧ s'.most = s.most := by
  cases hO with
  | old p e1 e2 => exact ⟨Nat.le_trans (Nat.le_of_eq setX_len.1) (Nat.le_succ _), setX_len.2⟩
  | new k hn => exact put_len hs _
theorem OfR.zero {s s' : WS} {t h e : Int} (hs : AOk s) (hO : OfR s t s' h e) : (h ≠ 0 ∧ e = 0) ∨ (h = 0 ∧ e = 3) := by
  cases hO with
  | old p e1 e2 => have := p.bl.range hs; exact .inl ⟨by omega, rfl⟩
  | new k hn =>
    have hz := put_zero (x := (some (k, ⟨t, false, 1⟩) : WP)) hs
    by_cases he : (put s (some (k, ⟨t, false, 1⟩))).2.2 = 0
    · exact .inl ⟨fun h => hz.1 h he, he⟩
    · exact .inr ⟨hz.2 he, by rw [put_same hs he]⟩
theorem OfR.rng {s s' : WS} {t h e : Int} (hs : AOk s) (hs' : AOk s') (hO : OfR s t s' h e) : 0 ≤ h ∧ h ≤ 18446744073709551615 := by
  cases hO with
  | old p e1 e2 => have := p.bl.range hs; exact ⟨by omega, by omega⟩
  | new k hn =>
    by_cases he : (put s (some (k, ⟨t, false, 1⟩))).2.2 = 0
    · have := Bl.range hs' ((bl_put hs he).2 (.inr ⟨rfl, rfl⟩))
      exact ⟨by omega, by omega⟩
    · rw [put_same hs he]; exact ⟨Int.le_refl 0, by dsimp only; omega⟩
/-- Behind a call of Of that was answered, the target's block is there. -/
theorem OfR.bl {N : Int} {s s' : WS} {t h e : Int} (hs : WOk N s) (hO : OfR s t s' h e) (he : e = 0) : ∃ b, Bl s' h b ∧ b.tg = t ∧ b.dead = false := by
  cases hO with
  | old p e1 e2 => exact ⟨_, (bl_setX hs p).2 (.inl ⟨rfl, rfl⟩), e1, e2⟩
  | new k hn => exact ⟨_, (bl_put hs.ok he).2 (.inr ⟨rfl, rfl⟩), rfl, rfl⟩
/-- What was there is there still, counted up or not. -/
theorem OfR.keeps {N : Int} {s s' : WS} {t h e : Int} (hs : WOk N s) (hO : OfR s t s' h e) {h' : Int} {b : WB} (hb : Bl s h' b) : ∃ b', Bl s' h' b' ∧ b'.tg = b.tg ∧ b'.dead = b.dead := by
  cases hO with
  | old p e1 e2 =>
    by_cases e : h' = h
    · subst e
      obtain rfl := Bl.one hs.ok hb p.bl
      exact ⟨_, (bl_setX hs p).2 (.inl ⟨rfl, rfl⟩), rfl, rfl⟩
    · exact ⟨b, (bl_setX hs p).2 (.inr ⟨hb, e⟩), rfl, rfl⟩
  | new k hn =>
    by_cases he : (put s (some (k, ⟨t, false, 1⟩))).2.2 = 0
    · exact ⟨b, (bl_put hs.ok he).2 (.inl hb), rfl, rfl⟩
    · rw [put_same hs.ok he]; exact ⟨b, hb, rfl, rfl⟩
theorem DieR.keeps {N : Int} {s s' : WS} {t : Int} {d : Bool} {f : Int → Option Int} (hf : FRel f s) (hs : WOk N s) (hD : DieR s t s' d) {h' : Int} {b : WB} (hb : Bl s h' b) : ∃ b', Bl s' h' b' ∧ b'.tg = b.tg ∧ b'.dead = (b.dead || decide (b.tg = t)) := by
  cases hD with
  | no hn =>
    refine ⟨b, hb, rfl, ?_⟩
    cases hd : b.dead with
    | true => rfl
    | false => rw [decide_eq_false fun e => hn h' b hb e hd]; rfl
  | @yes h i y k c p e1 e2 =>
    by_cases e : h' = h
    · subst e
      obtain rfl := Bl.one hs.ok hb p.bl
      exact ⟨_, (bl_setX hs p).2 (.inl ⟨rfl, rfl⟩), rfl, by simp [e1]⟩
    · refine ⟨b, (bl_setX hs p).2 (.inr ⟨hb, e⟩), rfl, ?_⟩
      cases hd : b.dead with
      | true => rfl
      | false =>
        rw [decide_eq_false ?_]
        · rfl
        · intro e3
          have a1 := (hf t h).2 ⟨c, p.bl, e1, e2⟩
          have a2 := (hf t h').2 ⟨b, hb, e3, hd⟩
          exact e (Option.some.inj (a2.symm.trans a1))
theorem DieR.len {s s' : WS} {t : Int} {d : Bool} (hD : DieR s t s' d) : s'.sp.length = s.sp.length ∧ s'.most = s.most := by
  cases hD with
  | no => exact ⟨rfl, rfl⟩
  | yes p e1 e2 => exact setX_len
theorem DownR.keeps {N : Int} {s s' : WS} {h n e : Int} (hs : WOk N s) (hD : DownR s h s' n e) {h' : Int} {b : WB} (hb : Bl s h' b) (hne : h' ≠ h) : Bl s' h' b := by
  cases hD with
  | no => exact hb
  | last p e1 => exact (bl_drop hs p).2 ⟨hb, hne⟩
  | more p e1 => exact (bl_setX hs p).2 (.inr ⟨hb, hne⟩)

/-! ### the document's example -/
theorem tenonlaw12_awake_ok {w₀ w : World} {F : HP} (h : Sat w₀ F w) : call Try.prog fn_tenonlaw12_awake #[] w fun v w' => v = .bool true ∧ Sat w₀ F w' := by
  apply tenonlaw12_awake_call
  unfold tenonlaw12_awake
  refine call_mono (weak_New_ok (most := 4) h (by decide) (by decide)) ?_
  rintro _ w1 ⟨b, a, r, rfl, h1⟩
  obtain ⟨s0, hs0⟩ : ∃ s0 : WS, s0 = ⟨4, 1, [], [], 0⟩ := ⟨_, rfl⟩
  rw [← hs0] at h1
  obtain ⟨k0, f0, g0, _⟩ := WT.open_ h1
  refine ⟨_, _, rfl, call_mono (weak_Of_ok (t := 5) h1 (by decide) (by decide) (by decide) (by decide)) ?_⟩
  rintro _ w2 ⟨s1, n1, e1, rfl, o1, h2⟩
  obtain ⟨k1, f1, g1, _⟩ := WT.open_ h2
  refine ⟨_, _, rfl, call_mono (weak_Of_ok (t := 5) h2 (by decide) (by decide) (by decide) (by decide)) ?_⟩
  rintro _ w3 ⟨s2, n2, e2, rfl, o2, h3⟩
  obtain ⟨k2, f2, g2, _⟩ := WT.open_ h3
  -- what was answered
  have no0 : ∀ h c, ¬ Bl s0 h c := fun h c ⟨k, i, y, hy, _⟩ => by rw [hs0] at hy; simp at hy
  have m0 : s0.sp.length = 0 ∧ s0.most = 4 := by rw [hs0]; exact ⟨rfl, rfl⟩
  have l1 := o1.len k0.ok
  have z1 : e1 = 0 := by
    cases o1 with
    | old p _ _ => exact (no0 _ _ p.bl).elim
    | new k hn => exact put_room k0.ok _ (by omega)
  have only1 : ∀ h c, Bl s1 h c → h = n1 := by
    intro h c hc
    cases o1 with
    | old p _ _ => exact (no0 _ _ p.bl).elim
    | new k hn =>
      rcases (bl_put k0.ok z1).1 hc with hc | ⟨e, _⟩
      · exact (no0 _ _ hc).elim
      · exact e
  obtain ⟨b1, hb1, ht1, hd1⟩ := o1.bl k0 z1
  have q2 : n2 = n1 ∧ e2 = 0 ∧ s2.sp.length = s1.sp.length ∧ s2.most = s1.most ∧ (∀ h c, Bl s2 h c → h = n1) := by
    cases o2 with
    | old p _ _ =>
      have e := only1 _ _ p.bl
      refine ⟨e, rfl, setX_len.1, setX_len.2, fun h c hc => ?_⟩
      rcases (bl_setX k1 p).1 hc with ⟨e', _⟩ | ⟨hc, _⟩
      · exact e'.trans e
      · exact only1 _ _ hc
    | new k hn => exact (hn _ _ hb1 ht1 hd1).elim
  obtain ⟨rfl, z2, l2, m2, only2⟩ := q2
  obtain ⟨b2, hb2, ht2, hd2⟩ := o2.bl k1 z2
  have hrg := hb2.range k2.ok
  refine ⟨_, _, rfl, br_false rfl <| br_false (by simp [z1]) <| br_false (by simp [z2]) <| br_false (by simp) <| call_mono (weak_Die_ok (t := 5) h3) ?_⟩
  rintro _ w4 ⟨s3, d, rfl, o3, h4⟩
  obtain ⟨k3, f3, g3, _⟩ := WT.open_ h4
  have hd : d = true := by
    cases o3 with
    | no hn => exact (hn _ _ hb2 ht2 hd2).elim
    | yes => rfl
  have l3 := o3.len
  obtain ⟨b3, hb3, ht3, hd3⟩ := o3.keeps g2 k2 hb2
  have hd3 : b3.dead = true := by rw [hd3, ht2]; simp
  have only3 : ∀ h c, Bl s3 h c → h = n2 := by
    intro h c hc
    cases o3 with
    | no hn => exact only2 _ _ hc
    | yes p _ _ =>
      rcases (bl_setX k2 p).1 hc with ⟨e', _⟩ | ⟨hc, _⟩
      · exact e'.trans (only2 _ _ p.bl)
      · exact only2 _ _ hc
  subst hd
  refine asB_ok <| br_false rfl <| call_mono (weak_Lock_ok (h := n2) h4 (by omega) (by omega)) ?_
  rintro _ w5 ⟨rfl, t, e, rfl, hL⟩
  have he : e = 10 := by
    cases hL with
    | no hn => exact (hn _ hb3).elim
    | dead => rfl
    | live hc hdd =>
      obtain rfl := Bl.one k3.ok hc hb3
      rw [hd3] at hdd
      cases hdd
  refine ⟨_, _, rfl, call_mono (weak_Of_ok (t := 5) h4 (by decide) (by decide) (by decide) (by decide)) ?_⟩
  rintro _ w6 ⟨s4, n4, e4, rfl, o4, h5⟩
  have q4 : e4 = 0 ∧ n4 ≠ n2 := by
    cases o4 with
    | old p _ hdd =>
      have e := only3 _ _ p.bl
      subst e
      obtain rfl := Bl.one k3.ok p.bl hb3
      rw [hd3] at hdd
      cases hdd
    | new k hn =>
      have hz := put_room k3.ok (some (k, ⟨5, false, 1⟩) : WP) (by omega)
      refine ⟨hz, fun e => ?_⟩
      have := bl_fresh (c := b3) k3.ok hz
      rw [e] at this
      exact this hb3
  exact ⟨_, _, rfl, br_true (by simp [he]) <| br_true (by simp [q4.1]) ⟨by simp [q4.2], h5.right⟩⟩
theorem told_nil {w₀ w : World} {F : HP} {most : Int} (h : Sat w₀ F w) :
    call Try.prog fn_tenonlaw12_told #[.pointer none, .int .i64 most] w fun v w' => ∃ p c q d, v = .tuple #[.slice p 0 c, .slice q 0 d] ∧ Sat w₀ F w' := by
  refine call_mono (told_ok (Q := F) (F := emp) (ps := []) (most := most) (by simp) (fun k t Pre hP hQ => wBlocks_nil (hP 0)) ((h.with_emp).perm (by ac_rfl))) ?_
  rintro _ w' ⟨p, m, c, q, d, rfl, hm, h'⟩
  have : m = 0 := by simpa using hm
  subst this
  exact ⟨p, c, q, d, rfl, h'.right.right.left⟩
theorem WeakNil_row {W : World} {c t : Int} (hc : IntKind.u64.min ≤ c ∧ c ≤ IntKind.u64.max) (ht : IntKind.u64.min ≤ t ∧ t ≤ IntKind.u64.max) :
    call Try.prog fn_tenonlaw12_WeakNil #[.int .u64 c, .int .u64 t] W fun v w' => v = .bool true ∧ Below W.heap.size W w' := by
  apply tenonlaw12_WeakNil_call
  unfold tenonlaw12_WeakNil
  have hof : PureCall Try.prog fn_weak_Table_Of #[.pointer none, .int .u64 t] (.tuple #[.int .u64 0, .int .i64 3]) := by
    intro w
    apply weak_Table_Of_call
    unfold weak_Table_Of
    exact br_true rfl ⟨rfl, rfl⟩
  have hup : PureCall Try.prog fn_weak_Table_Up #[.pointer none, .int .u64 c] (.tuple #[.int .u32 0, .int .i64 2]) := by
    intro w
    apply weak_Table_Up_call
    unfold weak_Table_Up
    exact call_pure wfind_nil ⟨_, _, rfl, br_true rfl ⟨rfl, rfl⟩⟩
  have hdown : PureCall Try.prog fn_weak_Table_Down #[.pointer none, .int .u64 c] (.tuple #[.int .u32 0, .int .i64 2]) := by
    intro w
    apply weak_Table_Down_call
    unfold weak_Table_Down
    exact call_pure wfind_nil ⟨_, _, rfl, br_true rfl ⟨rfl, rfl⟩⟩
  have hlock : PureCall Try.prog fn_weak_Table_Lock #[.pointer none, .int .u64 c] (.tuple #[.int .u64 0, .int .i64 2]) := by
    intro w
    apply weak_Table_Lock_call
    unfold weak_Table_Lock
    exact call_pure wfind_nil ⟨_, _, rfl, br_true rfl ⟨rfl, rfl⟩⟩
  have hdie : PureCall Try.prog fn_weak_Table_Die #[.pointer none, .int .u64 t] (.bool false) := by
    intro w
    apply weak_Table_Die_call
    unfold weak_Table_Die
    exact br_true rfl ⟨rfl, rfl⟩
  refine call_pure hof ⟨_, _, rfl, call_pure hup ⟨_, _, rfl, call_pure hdown ⟨_, _, rfl, call_pure hlock ⟨_, _, rfl, call_mono (told_nil (Sat.start W)) ?_⟩⟩⟩⟩
  rintro _ w1 ⟨p, c1, q, d1, rfl, h1⟩
  refine ⟨_, _, _, _, _, _, rfl, br_true rfl <| br_true rfl <| br_true rfl <| br_true rfl <| br_true rfl <| call_pure hdie <| asB_ok <| br_true rfl <| br_true rfl <| call_mono (tenonlaw12_awake_ok h1) ?_⟩
  rintro _ w2 ⟨rfl, h2⟩
  exact asB_ok ⟨rfl, h2.below'⟩
end Go.Proofs.Ytiogdefiokmmkaa
