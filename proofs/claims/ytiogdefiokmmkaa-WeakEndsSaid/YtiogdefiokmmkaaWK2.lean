/- Contracts of layer 12 (weak): the table's calls. No conditions. -/
import Derived.Test.YtiogdefiokmmkaaWK1
set_option linter.unusedVariables false
set_option linter.unusedSimpArgs false
set_option maxRecDepth 100000
namespace Go.Proofs.Ytiogdefiokmmkaa
open Go.Sp Go.RowKit

def u64H (h : Int) : Value := .int .u64 h
def mpH (r : Nat) (f : Int → Option Int) : HP := mapH u64H u64H (fun _ => True) r f
theorem wkeys : KeyTy Try.prog T_map_uint64_uint64 T_uint64 T_uint64 u64H (fun _ => True) := keyInt (by kernel_rfl) (by kernel_rfl)
theorem wzero (w : World) : (zeroValue T_uint64).run Try.prog w = .ok (.int .u64 0) w := by kernel_rfl
def tbA (a r : Nat) : Array Value := #[.pointer (some ⟨a, 0, none⟩), .map (some r)]
def WT (b a r : Nat) (N : Int) (s : WS) : HP := ex fun f : Int → Option Int => prop (WOk N s ∧ FRel f s) * (blk b (tbA a r) T_weak_Table * (Ar a (mapA pt s) * (stars s.sp * mpH r f)))
section
variable {w₀ w : World} {F : HP} {b a r : Nat} {N : Int} {s : WS}
theorem WT.open_ (h : Sat w₀ (WT b a r N s * F) w) : WOk N s ∧ ∃ f, FRel f s ∧ Sat w₀ (blk b (tbA a r) T_weak_Table * (Ar a (mapA pt s) * (stars s.sp * (mpH r f * F)))) w := by
  obtain ⟨f, h⟩ := Sat.ex h
  have h := h.perm (B := prop (WOk N s ∧ FRel f s) * (blk b (tbA a r) T_weak_Table * (Ar a (mapA pt s) * (stars s.sp * (mpH r f * F))))) (by ac_rfl)
  exact ⟨h.prop.1, f, h.prop.2, h.right⟩
theorem WT.shut {f : Int → Option Int} (hs : WOk N s) (hf : FRel f s) (h : Sat w₀ (blk b (tbA a r) T_weak_Table * (Ar a (mapA pt s) * (stars s.sp * (mpH r f * F)))) w) : Sat w₀ (WT b a r N s * F) w :=
  Sat.to_ex f ((h.add_prop (p := WOk N s ∧ FRel f s) ⟨hs, hf⟩).perm (by ac_rfl))
theorem WT.mono {M : Int} (hm : N ≤ M) (h : Sat w₀ (WT b a r N s * F) w) : Sat w₀ (WT b a r M s * F) w := by
  obtain ⟨hs, f, hf, h⟩ := WT.open_ h
  exact WT.shut (hs.mono hm) hf h
theorem star_out {h i y k c} (p : Spt s h i y k c) : stars s.sp = blk k (wbF c) T_weak_block * stars (s.sp.eraseIdx i) := by rw [stars_pull p.get, p.pay]; rfl
theorem star_in {h i y k c} (p : Spt s h i y k c) (c' : WB) : stars (setX s i (some (k, c'))).sp = blk k (wbF c') T_weak_block * stars (s.sp.eraseIdx i) := by
  rw [setX_eq p.get]
  exact stars_set (List.getElem?_eq_some_iff.1 p.get).1
theorem star_drop {h i y k c} (p : Spt s h i y k c) (h' : Sat w₀ (stars (s.sp.eraseIdx i) * F) w) : Sat w₀ (stars (dropS none s i).sp * F) w := by
  have hlt := (List.getElem?_eq_some_iff.1 p.get).1
  rcases drop_cases (z := (none : WP)) p.get with ⟨_, hd⟩ | ⟨_, hd⟩ <;> rw [hd] <;> dsimp only <;> rw [stars_set hlt]
  · exact (h'.with_emp).perm (by show emp * _ = starH none * _ * _; rw [starH]; ac_rfl)
  · exact (h'.with_emp).perm (by show emp * _ = starH none * _ * _; rw [starH]; ac_rfl)
theorem star_put (hs : AOk s) {k : Nat} {c : WB} (h : Sat w₀ (blk k (wbF c) T_weak_block * (stars s.sp * F)) w) : Sat w₀ (stars (put s (some (k, c))).1.sp * F) w := by
  rcases put_cases hs (some (k, c)) with ⟨fr, i, y, hfr, hy, hst, hput⟩ | ⟨hfr, hfull, hput⟩ | ⟨hfr, hfull, hput⟩ <;> rw [hput] <;> dsimp only
  · rw [stars_set (List.getElem?_eq_some_iff.1 hy).1]
    rw [stars_pull hy] at h
    exact (h.perm (B := starH y.x * (blk k (wbF c) T_weak_block * (stars (s.sp.eraseIdx i) * F))) (by ac_rfl)).right.perm (by show _ = starH (some (k, c)) * _ * _; rw [starH]; ac_rfl)
  · exact h.right
  · rw [stars_snoc]
    exact h.perm (by show _ = starH (some (k, c)) * _ * _; rw [starH]; ac_rfl)
theorem pt_setX {h i y k c} (p : Spt s h i y k c) (c' : WB) : mapA pt (setX s i (some (k, c'))) = mapA pt s :=
  setX_unit fun z hz => by
    rw [p.get] at hz
    cases hz
    rw [p.pay]
    rfl

theorem weak_New_ok {most : Int} (h : Sat w₀ F w) (h0 : 1 ≤ most) (h1 : most ≤ 65536) :
    call Try.prog fn_weak_New #[.int .i64 most] w fun v w' => ∃ b a r, v = .tuple #[.pointer (some ⟨b, 0, none⟩), .int .i64 0] ∧ Sat w₀ (WT b a r 1 ⟨most, 1, [], [], 0⟩ * F) w' := by
  apply weak_New_call
  unfold weak_New
  refine call_mono (arena_New_ok h h0 h1 (by decide)) ?_
  rintro _ w1 ⟨a, rfl, h2⟩
  refine ⟨_, _, rfl, br_false rfl <| newM_ok u64H u64H (fun _ => True) h2 fun r w2 h3 => new_ok h3 fun b w3 h4 => ⟨b, a, r, rfl, ?_⟩⟩
  have hno : ∀ h c, ¬ Bl (⟨most, 1, [], [], 0⟩ : WS) h c := fun h c ⟨k, i, y, hy, _⟩ => by simp at hy
  refine WT.shut (f := fun _ => none) ⟨AOk.start h0 h1 (by decide) (by decide), fun y hy => by cases hy⟩ (fun t h => ⟨fun e => (by cases e), fun ⟨c, hc, _⟩ => (hno h c hc).elim⟩) ?_
  exact ((h4.with_emp).perm (by
    show emp * (blk b _ _ * (mapH _ _ _ _ _ * (Ar a ⟨most, 1, [], [], 0⟩ * F))) = blk b (tbA a r) T_weak_Table * (Ar a ⟨most, 1, [], [], 0⟩ * (emp * (mpH r _ * F)))
    unfold mpH tbA
    ac_rfl))
theorem weak_New_no {most : Int} (h0 : most < 1 ∨ most > 65536) : PureCall Try.prog fn_weak_New #[.int .i64 most] (.tuple #[.pointer none, .int .i64 1]) := by
  intro w
  apply weak_New_call
  unfold weak_New
  exact call_pure (arena_New_no (w := w) (by omega)) ⟨_, _, rfl, br_true rfl ⟨rfl, rfl⟩⟩
theorem wfind_nil {h : Int} : PureCall Try.prog fn_weak_Table_find #[.pointer none, .int .u64 h] (.tuple #[.pointer none, .int .i64 2]) := by
  intro w
  apply weak_Table_find_call
  unfold weak_Table_find
  exact br_true rfl ⟨rfl, rfl⟩
theorem wfind_ok {h : Int} (hh : Sat w₀ (blk b (tbA a r) T_weak_Table * (Ar a (mapA pt s) * F)) w) (hs : WOk N s) (h0 : 0 ≤ h) (h1 : h ≤ 18446744073709551615) :
    call Try.prog fn_weak_Table_find #[.pointer (some ⟨b, 0, none⟩), .int .u64 h] w fun v w' => w' = w ∧
      ((v = .tuple #[.pointer none, .int .i64 2] ∧ ∀ c, ¬ Bl s h c) ∨ ∃ i y k c, Spt s h i y k c ∧ v = .tuple #[.pointer (some ⟨k, 0, none⟩), .int .i64 0]) := by
  apply weak_Table_find_call
  unfold weak_Table_find
  refine br_false rfl <| nn_ok <| ldP_ok (hh.left.cell (i := 0) rfl) <| call_mono (arena_Get_ok (hh.perm (B := Ar a (mapA pt s) * (blk b (tbA a r) T_weak_Table * F)) (by ac_rfl)) h0 h1) ?_
  rintro v w1 ⟨rfl, hv⟩
  rw [find_mapA hs.ok] at hv
  rcases hs.cases h with ⟨hf, hn⟩ | ⟨i, y, k, c, p⟩
  · rw [hf] at hv
    cases hv
    exact ⟨_, _, rfl, rfl, .inl ⟨rfl, hn⟩⟩
  · rw [p.fnd hs.ok, Option.bind_some, mapA_get, p.get] at hv
    have hv : v = .tuple #[PV (pt y.x), .int .i64 0] := hv
    rw [p.pay] at hv
    subst hv
    exact ⟨_, _, rfl, rfl, .inr ⟨i, y, k, c, p, rfl⟩⟩
theorem weak_Up_ok {h : Int} (hh : Sat w₀ (WT b a r N s * F) w) (hN : N < 4294967295) (h0 : 0 ≤ h) (h1 : h ≤ 18446744073709551615) :
    call Try.prog fn_weak_Table_Up #[.pointer (some ⟨b, 0, none⟩), .int .u64 h] w fun v w' => ∃ s' n e, v = .tuple #[.int .u32 n, .int .i64 e] ∧ UpR s h s' n e ∧ Sat w₀ (WT b a r (N + 1) s' * F) w' := by
  apply weak_Table_Up_call
  unfold weak_Table_Up
  obtain ⟨hs, f, hf, hh⟩ := WT.open_ hh
  refine call_mono (wfind_ok hh hs h0 h1) ?_
  rintro _ w1 ⟨rfl, ⟨rfl, hn⟩ | ⟨i, y, k, c, p, rfl⟩⟩
  · exact ⟨_, _, rfl, br_true rfl ⟨s, 0, 2, rfl, .no hn, WT.shut (hs.mono (by omega)) hf hh⟩⟩
  · have hr := hs.rng p
    have h2 := hh.perm (B := blk k (wbF c) T_weak_block * (blk b (tbA a r) T_weak_Table * (Ar a (mapA pt s) * (stars (s.sp.eraseIdx i) * (mpH r f * F))))) (by rw [star_out p]; ac_rfl)
    refine ⟨_, _, rfl, br_false rfl <| nn_ok <| ldI_ok (h2.left.cell (i := 2) rfl) <| br_false (by simp; omega) <| nn_ok <| ldI_ok (h2.left.cell (i := 2) rfl) <| arith_u32 (by omega) (by omega) <| nn_ok <| st_ok (i := 2) h2 (by simp [wbF]) fun w2 h3 => nn_ok <| ldI_ok (h3.left.cell (i := 2) rfl) ⟨_, _, _, rfl, .yes p, ?_⟩⟩
    refine WT.shut (f := f) (hs.setX p (by omega) (by dsimp only; omega) (by dsimp only; omega) rfl) (hf.count hs p rfl rfl) ?_
    rw [pt_setX p, star_in p]
    exact h3.perm (by
      show blk k #[.int .u64 c.tg, .bool c.dead, .int .u32 (c.cn + 1)] T_weak_block * _ = _
      unfold wbF
      ac_rfl)
theorem weak_Of_ok {t : Int} (hh : Sat w₀ (WT b a r N s * F) w) (h1N : 1 ≤ N) (hN : N < 4294967295) (h0 : 0 ≤ t) (h1 : t ≤ 18446744073709551615) :
    call Try.prog fn_weak_Table_Of #[.pointer (some ⟨b, 0, none⟩), .int .u64 t] w fun v w' => ∃ s' h e, v = .tuple #[.int .u64 h, .int .i64 e] ∧ OfR s t s' h e ∧ Sat w₀ (WT b a r (N + 1) s' * F) w' := by
  apply weak_Table_Of_call
  unfold weak_Table_Of
  obtain ⟨hs, f, hf, h2⟩ := WT.open_ hh
  refine br_false rfl <| nn_ok <| ldM_ok (h2.left.cell (i := 1) rfl) <| look_ok wkeys (x := t) (h2.perm (B := mpH r f * (blk b (tbA a r) T_weak_Table * (Ar a (mapA pt s) * (stars s.sp * F)))) (by ac_rfl)) trivial (wzero w) ?_
  cases hft : f t with
  | some h =>
    obtain ⟨c, hc, e1, e2⟩ := (hf t h).1 hft
    obtain ⟨i, y, k, p⟩ := hc.spt
    have hrg := hc.range hs.ok
    refine ⟨h, true, rfl, br_true rfl <| call_mono (weak_Up_ok hh hN (by omega) (by omega)) ?_⟩
    rintro _ w1 ⟨s', n, e, rfl, hU, h3⟩
    cases hU with
    | no hn => exact (hn _ hc).elim
    | yes p' => 
      obtain rfl := Bl.one hs.ok p'.bl hc
      exact ⟨_, _, rfl, br_false rfl ⟨_, h, 0, rfl, .old p' e1 e2, h3⟩⟩
  | none =>
    have hn := hf.none_.1 hft
    refine ⟨0, false, rfl, br_false rfl <| nn_ok <| ldP_ok (h2.left.cell (i := 0) rfl) <| new_ok h2 fun k w2 h3 => ?_⟩
    have h3 := h3.perm (B := Ar a (mapA pt s) * (blk k (wbF ⟨t, false, 1⟩) T_weak_block * (stars s.sp * (blk b (tbA a r) T_weak_Table * (mpH r f * F))))) (by
      show blk k (wbF ⟨t, false, 1⟩) T_weak_block * _ = _
      ac_rfl)
    refine call_mono (arena_Put_ok (x := pt (some (k, ⟨t, false, 1⟩))) h3 hs.ok.mapA) ?_
    rw [put_mapA hs.ok]
    rintro _ w3 ⟨rfl, h4⟩
    have hok := WOk.put (hs.mono (M := N + 1) (by omega)) (k := k) (b := ⟨t, false, 1⟩) (by dsimp only; omega) (by dsimp only; omega) h0 h1
    refine ⟨_, _, rfl, br_split (fun he => ?_) (fun he => ?_)⟩
    · have he : (put s (some (k, ⟨t, false, 1⟩))).2.2 = 0 := by simpa using he
      have h5 := (star_put hs.ok (h4.perm (B := blk k (wbF ⟨t, false, 1⟩) T_weak_block * (stars s.sp * (mpH r f * (blk b (tbA a r) T_weak_Table * (Ar a (mapA pt (put s (some (k, ⟨t, false, 1⟩))).1) * F))))) (by ac_rfl))).perm (B := mpH r f * (blk b (tbA a r) T_weak_Table * (Ar a (mapA pt (put s (some (k, ⟨t, false, 1⟩))).1) * (stars (put s (some (k, ⟨t, false, 1⟩))).1.sp * F)))) (by ac_rfl)
      refine nn_ok <| ldM_ok (h5.right.left.cell (i := 1) rfl) <| setM_ok wkeys (x := t) (v := (put s (some (k, ⟨t, false, 1⟩))).2.1) h5 trivial fun w4 h6 => ⟨_, _, _, rfl, .new k hn, ?_⟩
      exact WT.shut hok (hf.put hs (b := ⟨t, false, 1⟩) hn rfl he) (h6.perm (by unfold mpH; ac_rfl))
    · have he : (put s (some (k, ⟨t, false, 1⟩))).2.2 ≠ 0 := by simpa using he
      refine ⟨_, _, _, rfl, .new k hn, ?_⟩
      rw [put_same hs.ok he] at h4 ⊢
      refine WT.shut (hs.mono (by omega)) hf ?_
      exact (h4.perm (B := blk k (wbF ⟨t, false, 1⟩) T_weak_block * (blk b (tbA a r) T_weak_Table * (Ar a (mapA pt s) * (stars s.sp * (mpH r f * F))))) (by ac_rfl)).right
theorem weak_Down_ok {h : Int} (hh : Sat w₀ (WT b a r N s * F) w) (hN : N < 4294967295) (h0 : 0 ≤ h) (h1 : h ≤ 18446744073709551615) :
    call Try.prog fn_weak_Table_Down #[.pointer (some ⟨b, 0, none⟩), .int .u64 h] w fun v w' => ∃ s' n e, v = .tuple #[.int .u32 n, .int .i64 e] ∧ DownR s h s' n e ∧ Sat w₀ (WT b a r N s' * F) w' := by
  apply weak_Table_Down_call
  unfold weak_Table_Down
  obtain ⟨hs, f, hf, hh⟩ := WT.open_ hh
  refine call_mono (wfind_ok hh hs h0 h1) ?_
  rintro _ w1 ⟨rfl, ⟨rfl, hn⟩ | ⟨i, y, k, c, p, rfl⟩⟩
  · exact ⟨_, _, rfl, br_true rfl ⟨s, 0, 2, rfl, .no hn, WT.shut hs hf hh⟩⟩
  · have hr := hs.rng p
    have h2 := hh.perm (B := blk k (wbF c) T_weak_block * (blk b (tbA a r) T_weak_Table * (Ar a (mapA pt s) * (stars (s.sp.eraseIdx i) * (mpH r f * F))))) (by rw [star_out p]; ac_rfl)
    refine ⟨_, _, rfl, br_false rfl <| nn_ok <| ldI_ok (h2.left.cell (i := 2) rfl) <| arith_u32 (by omega) (by omega) <| nn_ok <| st_ok (i := 2) h2 (by simp [wbF]) fun w2 h3 => ?_⟩
    have h3 : Sat w₀ (blk k #[.int .u64 c.tg, .bool c.dead, .int .u32 (c.cn - 1)] T_weak_block * (blk b (tbA a r) T_weak_Table * (Ar a (mapA pt s) * (stars (s.sp.eraseIdx i) * (mpH r f * F))))) w2 := h3
    refine nn_ok <| ldI_ok (h3.left.cell (i := 2) rfl) <| br_split (fun h1c => ?_) (fun hne => ?_)
    · have h1c : c.cn = 1 := by have : c.cn - 1 = 0 := by simpa using h1c
                                omega
      refine nn_ok <| ldP_ok (h3.right.left.cell (i := 0) rfl) <| call_mono (arena_Drop_ok (h3.perm (B := Ar a (mapA pt s) * (blk k #[.int .u64 c.tg, .bool c.dead, .int .u32 (c.cn - 1)] T_weak_block * (blk b (tbA a r) T_weak_Table * (stars (s.sp.eraseIdx i) * (mpH r f * F))))) (by ac_rfl)) hs.ok.mapA h0 h1) ?_
      have hfm : find (mapA pt s) h = some i := by rw [find_mapA hs.ok]; exact p.fnd hs.ok
      rw [dropR_some hfm (by rw [mapA_get, p.get]; rfl)]
      rintro _ w3 ⟨rfl, h4⟩
      have h4 : Sat w₀ (Ar a (dropS (pt none) (mapA pt s) i) * (blk k #[.int .u64 c.tg, .bool c.dead, .int .u32 (c.cn - 1)] T_weak_block * (blk b (tbA a r) T_weak_Table * (stars (s.sp.eraseIdx i) * (mpH r f * F))))) w3 := h4
      rw [dropS_mapA] at h4
      have h5 := (star_drop p (h4.perm (B := stars (s.sp.eraseIdx i) * (blk k #[.int .u64 c.tg, .bool c.dead, .int .u32 (c.cn - 1)] T_weak_block * (blk b (tbA a r) T_weak_Table * (Ar a (mapA pt (dropS none s i)) * (mpH r f * F))))) (by ac_rfl))).perm (B := blk k #[.int .u64 c.tg, .bool c.dead, .int .u32 (c.cn - 1)] T_weak_block * (blk b (tbA a r) T_weak_Table * (Ar a (mapA pt (dropS none s i)) * (stars (dropS none s i).sp * (mpH r f * F))))) (by ac_rfl)
      refine ⟨_, _, rfl, nn_ok <| ldB_ok (h5.left.cell (i := 1) rfl) <| br_split (fun hd => ?_) (fun hd => ?_)⟩
      · have hd : c.dead = false := by simpa using hd
        have h6 := h5.drew
        refine nn_ok <| ldM_ok (h6.right.left.cell (i := 1) rfl) <| nn_ok <| ldI_ok (h6.left.cell (i := 0) rfl) <| delM_ok wkeys (x := c.tg) rfl (h6.perm (B := mpH r f * (blk k #[.int .u64 c.tg, .bool c.dead, .int .u32 (c.cn - 1)] T_weak_block * (blk b (tbA a r) T_weak_Table * (Ar a (mapA pt (dropS none s i)) * (stars (dropS none s i).sp * F))))) (by ac_rfl)) trivial fun w4 h7 => ?_
        refine nn_ok <| ldI_ok (h7.right.left.cell (i := 2) rfl) ⟨_, _, _, by rw [show c.cn - 1 = 0 by omega], .last p h1c, ?_⟩
        refine WT.shut (hs.drop p) (hf.dropLive hs p hd) ?_
        exact (h7.perm (B := blk k #[.int .u64 c.tg, .bool c.dead, .int .u32 (c.cn - 1)] T_weak_block * (blk b (tbA a r) T_weak_Table * (Ar a (mapA pt (dropS none s i)) * (stars (dropS none s i).sp * (mpH r (upd f c.tg none) * F))))) (by unfold mpH; ac_rfl)).right
      · have hd : c.dead = true := by simpa using hd
        refine nn_ok <| ldI_ok (h5.left.cell (i := 2) rfl) ⟨_, _, _, by rw [show c.cn - 1 = 0 by omega], .last p h1c, ?_⟩
        exact WT.shut (hs.drop p) (hf.dropDead hs p hd) h5.right
    · have hne : c.cn ≠ 1 := by
        have : ¬ c.cn - 1 = 0 := by simpa using hne
        omega
      refine nn_ok <| ldI_ok (h3.left.cell (i := 2) rfl) ⟨_, _, _, rfl, .more p hne, ?_⟩
      refine WT.shut (f := f) (hs.setX p (by omega) (by dsimp only; omega) (by dsimp only; omega) rfl) (hf.count hs p rfl rfl) ?_
      rw [pt_setX p, star_in p]
      exact h3.perm (by unfold wbF; ac_rfl)
theorem weak_Die_ok {t : Int} (hh : Sat w₀ (WT b a r N s * F) w) :
    call Try.prog fn_weak_Table_Die #[.pointer (some ⟨b, 0, none⟩), .int .u64 t] w fun v w' => ∃ s' d, v = .bool d ∧ DieR s t s' d ∧ Sat w₀ (WT b a r N s' * F) w' := by
  apply weak_Table_Die_call
  unfold weak_Table_Die
  obtain ⟨hs, f, hf, h2⟩ := WT.open_ hh
  refine br_false rfl <| nn_ok <| ldM_ok (h2.left.cell (i := 1) rfl) <| look_ok wkeys (x := t) (h2.perm (B := mpH r f * (blk b (tbA a r) T_weak_Table * (Ar a (mapA pt s) * (stars s.sp * F)))) (by ac_rfl)) trivial (wzero w) ?_
  cases hft : f t with
  | some h =>
    obtain ⟨c, hc, e1, e2⟩ := (hf t h).1 hft
    have hrg := hc.range hs.ok
    refine ⟨h, true, rfl, br_true rfl <| call_mono (wfind_ok h2 hs (by omega) (by omega)) ?_⟩
    rintro _ w1 ⟨rfl, ⟨rfl, hn⟩ | ⟨i, y, k, c', p, rfl⟩⟩
    · exact (hn _ hc).elim
    · obtain rfl := Bl.one hs.ok p.bl hc
      have hr := hs.rng p
      have h3 := h2.perm (B := blk k (wbF c') T_weak_block * (blk b (tbA a r) T_weak_Table * (Ar a (mapA pt s) * (stars (s.sp.eraseIdx i) * (mpH r f * F))))) (by rw [star_out p]; ac_rfl)
      refine ⟨_, _, rfl, nn_ok <| st_ok (i := 1) h3 (by simp [wbF]) fun w2 h4 => ?_⟩
      have h4 : Sat w₀ (blk k (wbF { c' with dead := true }) T_weak_block * (blk b (tbA a r) T_weak_Table * (Ar a (mapA pt s) * (stars (s.sp.eraseIdx i) * (mpH r f * F))))) w2 := h4
      refine nn_ok <| ldM_ok (h4.right.left.cell (i := 1) rfl) <| delM_ok wkeys (x := t) rfl (h4.perm (B := mpH r f * (blk k (wbF { c' with dead := true }) T_weak_block * (blk b (tbA a r) T_weak_Table * (Ar a (mapA pt s) * (stars (s.sp.eraseIdx i) * F))))) (by ac_rfl)) trivial fun w4 h7 => ⟨_, _, rfl, .yes p e1 e2, ?_⟩
      subst e1
      refine WT.shut (f := upd f c'.tg none) (hs.setX p (by omega) (by dsimp only; omega) (by dsimp only; omega) rfl) (hf.die hs p e2 rfl) ?_
      rw [pt_setX p, star_in p]
      exact h7.perm (by unfold mpH; ac_rfl)
  | none => exact ⟨0, false, rfl, br_false rfl ⟨s, false, rfl, .no (hf.none_.1 hft), hh⟩⟩
theorem weak_Lock_ok {h : Int} (hh : Sat w₀ (WT b a r N s * F) w) (h0 : 0 ≤ h) (h1 : h ≤ 18446744073709551615) :
    call Try.prog fn_weak_Table_Lock #[.pointer (some ⟨b, 0, none⟩), .int .u64 h] w fun v w' => w' = w ∧ ∃ t e, v = .tuple #[.int .u64 t, .int .i64 e] ∧ LockR s h t e := by
  apply weak_Table_Lock_call
  unfold weak_Table_Lock
  obtain ⟨hs, f, hf, hh⟩ := WT.open_ hh
  refine call_mono (wfind_ok hh hs h0 h1) ?_
  rintro _ w1 ⟨rfl, ⟨rfl, hn⟩ | ⟨i, y, k, c, p, rfl⟩⟩
  · exact ⟨_, _, rfl, br_true rfl ⟨rfl, _, _, rfl, .no hn⟩⟩
  · have h2 := hh.perm (B := blk k (wbF c) T_weak_block * (blk b (tbA a r) T_weak_Table * (Ar a (mapA pt s) * (stars (s.sp.eraseIdx i) * (mpH r f * F))))) (by rw [star_out p]; ac_rfl)
    refine ⟨_, _, rfl, br_false rfl <| nn_ok <| ldB_ok (h2.left.cell (i := 1) rfl) <| br_split (fun hd => ?_) (fun hd => ?_)⟩
    · exact ⟨rfl, _, _, rfl, .dead p.bl (by simpa using hd)⟩
    · exact nn_ok <| ldI_ok (h2.left.cell (i := 0) rfl) ⟨rfl, _, _, rfl, .live p.bl (by simpa using hd)⟩
end
end Go.Proofs.Ytiogdefiokmmkaa
