/- ArenaFull: the walk. No conditions. -/
import Derived.Test.YtifcjbgkcgbefaaA3
set_option linter.unusedVariables false
set_option linter.unusedSimpArgs false
namespace Go.Proofs.Ytifcjbgkcgbefaa
open Go.Sp Go.RowKit

theorem rd_num {w : World} {p : Option Addr} {l : Nat} {zs : List Int} {f : Int → Value} {i : Int} {K : Addr → Prop} (h : Rd w 1 p l (zs.map f)) (h0 : 0 ≤ i) (h1 : i < (l : Int))
    (hk : ∀ a z, zs[i.toNat]? = some z → w.cell? a = some (f z) → K a) : idx p l i 1 K := by
  have hl := h.1
  rw [List.length_map] at hl
  have hlt : i.toNat < zs.length := by omega
  refine idx_ok h h0 h1 fun a e => hk _ zs[i.toNat] (by simp [hlt]) ?_
  rw [Nat.mul_one]
  exact h.get e (by simp [hlt])
section
open Go.ChangeShapes Go.WideShapes Go.Deep
variable {H : Type} {enc : TypeId × Value → H} {W : World} {base : Nat}
theorem open_Ints {v : Value} {d : DataW H} {ps : List MemPlace} (hv : Value.okWide Try.prog W .any base T_sl_int v) (h : DataW.Trod enc Try.prog W 0 (fun _ => true) true T_sl_int v d ps) :
    ∃ (p : Option Addr) (l c : Nat) (zs : List Int), v = .slice p l c ∧ l ≤ 9223372036854775807 ∧ Rd W 1 p l (zs.map fun n => .int .i64 n) ∧ ∀ n ∈ zs, -9223372036854775808 ≤ n ∧ n ≤ 9223372036854775807 := by
  obtain ⟨p0, l0, c0, rfl⟩ := okWide_slice Try.underlying43 hv
  obtain ⟨fuel, h⟩ := h
  have hf : Try.prog.info? T_int = some (Try.prog.types[T_int]'(of_decide_eq_true (by kernel_rfl))) := by kernel_rfl
  obtain ⟨p, l, c, zs, e, hlc, hc, hrd, hrg⟩ := open_nums Try.underlying43 hf (by kernel_rfl) Try.underlying3 h
  cases e
  exact ⟨p0, l0, c0, zs, rfl, by simp only [maxLen] at hc; omega, hrd, fun n hn => by have := hrg n hn; simpa [IntKind.min, IntKind.max, IntKind.signed, IntKind.bits] using this⟩
end

/-- All places are taken, and these are their handles. -/
structure FullI (s : AS) (gs : List Int) (n : Int) (t : Int) : Prop where
  ok : AOk s
  fr : s.fr = []
  most : s.most = n
  first : s.first = 1
  len : gs.length = s.sp.length
  all : ∀ j y, s.sp[j]? = some y → y.st = 1 ∧ gs[j]? = some (hd j y.g) ∧ y.g ≤ 1 + t
theorem FullI.cnt {s : AS} {gs : List Int} {n t : Int} (h : FullI s gs n t) : s.cnt = s.sp.length := by
  rw [h.ok.cnt, List.countP_eq_length]
  intro y hy
  obtain ⟨j, hj⟩ := List.mem_iff_getElem?.1 hy
  simpa using (h.all j y hj).1
theorem FullI.full {s : AS} {gs : List Int} {n t : Int} (h : FullI s gs n t) (hl : (s.sp.length : Int) = n) (x : Int) : put s x = (s, 0, 3) := by
  have := h.most
  simp [put, h.fr, this, hl]
theorem FullI.more {s : AS} {gs : List Int} {n t : Int} (h : FullI s gs n t) (ht : 0 ≤ t) (hl : (s.sp.length : Int) < n) (x : Int) : (put s x).2.2 = 0 ∧ FullI (put s x).1 (gs ++ [(put s x).2.1]) n t ∧ (put s x).1.sp.length = s.sp.length + 1 := by
  have hm := h.most
  have ha := h.ok.put x
  rcases put_cases h.ok x with ⟨fr, j, z, hfr, hz, hst, hput⟩ | ⟨hfr, hfull, hput⟩ | ⟨hfr, hfull, hput⟩
  · rw [h.fr] at hfr
    simp at hfr
  · omega
  · rw [hput] at ha ⊢
    refine ⟨rfl, ⟨ha, rfl, h.most, h.first, by simp [h.len], fun j y hy => ?_⟩, by simp⟩
    dsimp only at hy ⊢
    by_cases hj : j < s.sp.length
    · rw [List.getElem?_append_left hj] at hy
      obtain ⟨h1, h2, h3⟩ := h.all j y hy
      exact ⟨h1, by rw [List.getElem?_append_left (by rw [h.len]; exact hj)]; exact h2, h3⟩
    · have e : j = s.sp.length := by
        have := (List.getElem?_eq_some_iff.1 hy).1
        simp at this
        omega
      subst e
      simp at hy
      subst hy
      refine ⟨rfl, ?_, by show s.first ≤ 1 + t; rw [h.first]; omega⟩
      rw [← h.len]
      simp
theorem FullI.turn {s : AS} {gs : List Int} {n t : Int} (h : FullI s gs n t) (ht : t ≤ 200) (ht0 : 0 ≤ t) {k : Nat} {g x : Int} (hg : gs[k]? = some g) :
    0 ≤ g ∧ g ≤ 18446744073709551615 ∧ (dropR s g).2.2 = 0 ∧ (put (dropR s g).1 x).2.2 = 0 ∧ (put (dropR s g).1 x).2.1 % 4294967296 = g % 4294967296 ∧ 0 ≤ (put (dropR s g).1 x).2.1 ∧ (put (dropR s g).1 x).2.1 ≤ 18446744073709551615 ∧
      FullI (put (dropR s g).1 x).1 (gs.set k (put (dropR s g).1 x).2.1) n (t + 1) ∧ (put (dropR s g).1 x).1.sp.length = s.sp.length := by
  have hk := (List.getElem?_eq_some_iff.1 hg).1
  rw [h.len] at hk
  obtain ⟨y, hy⟩ : ∃ y, s.sp[k]? = some y := ⟨s.sp[k], by simp [hk]⟩
  obtain ⟨h1, h2, h3⟩ := h.all k y hy
  rw [hg] at h2
  cases h2
  have hgy := h.ok.g y (List.mem_of_getElem? hy)
  have hl := h.ok.len
  have hm := h.ok.most1
  have hr := hd_range (i := k) (g := y.g) (by omega) (by omega) (by omega)
  have hf : find s (hd k y.g) = some k := (find_iff h.ok).2 ⟨y, hy, h1, rfl⟩
  have hd0 := dropR_some hf hy
  have ok1 := h.ok.dropR (hd k y.g)
  rcases drop_cases hy with ⟨hlt, hd1⟩ | ⟨hge, _⟩
  · rw [hd0, hd1, h.fr] at ok1 ⊢
    have ok2 := ok1.put x
    rcases put_cases ok1 x with ⟨fr, j, z, hfr, hz, hst, hput⟩ | ⟨hfr, hfull, hput⟩ | ⟨hfr, hfull, hput⟩
    · dsimp only at hput hz hfr ok2 ⊢
      rw [hput] at ok2 ⊢
      obtain ⟨rfl, e⟩ := List.append_inj' hfr rfl
      simp at e
      subst e
      rw [List.getElem?_set_self hk] at hz
      cases hz
      dsimp only at ok2 ⊢
      rw [List.set_set] at ok2 ⊢
      have hr2 := hd_range (i := k) (g := y.g + 1) (by omega) (by omega) (by omega)
      refine ⟨hr.1, hr.2, rfl, rfl, by unfold hd; omega, hr2.1, hr2.2, ⟨ok2, rfl, h.most, h.first, by simp [h.len], fun j z hz => ?_⟩, by simp⟩
      rcases set_get hz with ⟨rfl, rfl⟩ | ⟨hne, hz⟩
      · exact ⟨rfl, by rw [List.getElem?_set_self (by rw [h.len]; exact hk)], by show y.g + 1 ≤ 1 + (t + 1); omega⟩
      · obtain ⟨h4, h5, h6⟩ := h.all j z hz
        exact ⟨h4, by rw [List.getElem?_set_ne (fun e => hne e.symm)]; exact h5, by omega⟩
    · cases hfr
    · cases hfr
  · omega
theorem ArenaFull_walk {W : World} {p : Option Addr} {l c : Nat} {zs : List Int} {most : Int} (hx : Rd W 1 p l (zs.map fun n => .int .i64 n)) (hz : ∀ n ∈ zs, -9223372036854775808 ≤ n ∧ n ≤ 9223372036854775807) (hl : l ≤ 9223372036854775807) (hm : -9223372036854775808 ≤ most ∧ most ≤ 9223372036854775807) :
    call Try.prog fn_tenonlaw02_ArenaFull #[.int .i64 most, .slice p l c] W fun v w' => v = .bool true ∧ Below W.heap.size W w' := by
  apply tenonlaw02_ArenaFull_call
  unfold tenonlaw02_ArenaFull
  obtain ⟨k, hp, hk0, hk1, _⟩ := tenonref01_Pick_ok most 60 hm.1 hm.2 (by omega) (by omega)
  have hk1 := hk1 (by omega)
  refine call_pure hp <| asI_ok <| arith_i64 (by omega) (by omega) <| call_mono (arena_New_ok (Sat.start W) (by omega) (by omega) (by omega)) ?_
  rintro _ w1 ⟨a, rfl, h1⟩
  have k1 := AOk.start (most := 1 + k) (first := 1) (by omega) (by omega) (by omega) (by omega)
  generalize hn : 1 + k = n at *
  have done : ∀ {w F}, Sat W (F * old W) w → call Try.prog fn_tenonlaw02_awake #[] w fun v w' => asB v fun b => (Value.bool b) = .bool true ∧ Below W.heap.size W w' := by
    intro w F h
    refine call_mono (tenonlaw02_awake_ok h) ?_
    rintro _ w2 ⟨rfl, h2⟩
    exact asB_ok ⟨rfl, h2.right.below'⟩
  refine ⟨_, _, rfl, br_false rfl ⟨fun q m d i w r => ∃ (s : AS) (gs : List Int), 0 ≤ i ∧ i ≤ n ∧ r = (n - i).toNat ∧ FullI s gs n 0 ∧ i = s.sp.length ∧ Sat W (Ar a s * (tab T_uint64 1 fU64 q m d gs * old W)) w,
    ⟨_, _, [], by omega, by omega, rfl, ⟨k1, rfl, rfl, rfl, rfl, by simp⟩, rfl, (tab_nil T_uint64 1 fU64 h1).perm (by ac_rfl)⟩, ?_⟩⟩
  rintro u q m d i w3 r ⟨s, gs, h0, hi, rfl, hf, hil, h3⟩
  have hml := tab_len fU64_len (by decide) h3.right.left
  have hgl := hf.len
  refine br_dec (fun hlt => ?_) (fun hge => ?_)
  · obtain ⟨he, hf2, hl2⟩ := hf.more (by omega) (by omega) i
    refine call_mono (arena_Put_ok (x := i) h3 hf.ok) ?_
    rintro _ w4 ⟨rfl, h4⟩
    refine ⟨_, _, rfl, br_false (by simp [he]) <| new_ok h4 fun k w6 h6 => tab_app u64sTy fU64_len (by decide) fU64_one (x := (put s i).2.1) (h6.perm (B := _ * (tab T_uint64 1 fU64 q m d gs * (Ar a (put s i).1 * old W))) (by ac_rfl)) rfl (by simp only [maxLen]; omega) (by omega) fun p' c' w7 h7 => ?_⟩
    exact arith_i64 (by omega) (by omega) ⟨_, by omega, (put s i).1, gs ++ [(put s i).2.1], by omega, by omega, rfl, hf2, by omega, h7.p1⟩
  · have hfull := hf.full (by omega) 0
    refine call_mono (arena_Put_ok (x := 0) h3 hf.ok) ?_
    rw [hfull]
    rintro _ w4 ⟨rfl, h4⟩
    dsimp only at h4 ⊢
    refine ⟨_, _, rfl, br_false rfl ⟨fun i w r => ∃ (s : AS) (gs : List Int), 0 ≤ i ∧ i ≤ 100 ∧ r = 100 - i.toNat ∧ FullI s gs n i ∧ n = s.sp.length ∧ Sat W (Ar a s * (tab T_uint64 1 fU64 q m d gs * old W)) w,
      ⟨_, s, gs, by omega, by omega, rfl, hf, by omega, h4⟩, ?_⟩⟩
    clear h4 hfull h3 hil hgl hf
    rintro u i w5 r ⟨s, gs, h0, hi, rfl, hf, hil, h5⟩
    have hml := tab_len fU64_len (by decide) h5.right.left
    have hgl := hf.len
    refine br_dec (fun hlt => br_dec (fun hlt2 => ?_) (fun _ => done (h5.perm (by rw [sep_assoc])))) (fun _ => done (h5.perm (by rw [sep_assoc])))
    refine rd_num (hx.old h5.right.right) h0 hlt fun a0 z hz0 hc0 => ldI_ok hc0 ?_
    have hzr := hz z (List.mem_of_getElem? hz0)
    obtain ⟨k3, hp3, hk30, hk31, _⟩ := tenonref01_Pick_ok z n hzr.1 hzr.2 (by omega) (by omega)
    have hk31 := hk31 (by omega)
    obtain ⟨g, hg⟩ : ∃ g, gs[k3.toNat]? = some g := ⟨gs[k3.toNat]'(by omega), by simp⟩
    obtain ⟨t0, t1, t2, t3, t4, t5, t6, t7, t8⟩ := hf.turn (x := (dropR s g).2.1) (by omega) (by omega) hg
    refine call_pure hp3 <| asI_ok <| tab_idx fU64_len h5.right.left (by decide) hk30 hg fun b hb => ldI_ok (tab_cell fU64_len (j := 0) h5.right.left hb hg (by decide) rfl) <| call_mono (arena_Drop_ok h5 hf.ok t0 t1) ?_
    rintro _ w6 ⟨rfl, h6⟩
    refine ⟨_, _, rfl, call_mono (arena_Put_ok h6 (hf.ok.dropR g)) ?_⟩
    rintro _ w7 ⟨rfl, h7⟩
    have hfull := t7.full (by omega) 0
    refine ⟨_, _, rfl, call_mono (arena_Put_ok h7 t7.ok) ?_⟩
    rw [hfull]
    rintro _ w8 ⟨rfl, h8⟩
    dsimp only at h8 ⊢
    refine ⟨_, _, rfl, br_false (by simp [t2]) <| br_false (by simp [t3]) <| br_false rfl <| call_mono (arena_Len_ok h8) ?_⟩
    rintro _ w9 ⟨rfl, rfl⟩
    have hcn := t7.cnt
    refine asI_ok <| br_false (by simp; omega) <| arith_u32_mod <| tab_idx fU64_len h8.right.left (by decide) hk30 hg fun b hb => ldI_ok (tab_cell fU64_len (j := 0) h8.right.left hb hg (by decide) rfl) <| arith_u32_mod <| br_false (by simp [t4]) ?_
    refine tab_idx fU64_len h8.right.left (by decide) hk30 hg fun b hb => tab_st fU64_len (j := 0) (y' := (put (dropR s g).1 (dropR s g).2.1).2.1) h8.p1 hb hg (by decide) rfl fun w10 h10 => ?_
    exact arith_i64 (by omega) (by omega) ⟨_, by omega, _, _, by omega, by omega, rfl, t7, by omega, h10.p1⟩
theorem ArenaFull_row {W : World} {v : Value} {most : Int} (hm : IntKind.i64.min ≤ most ∧ most ≤ IntKind.i64.max) (h : ∃ (p : Option Addr) (l c : Nat) (zs : List Int), v = .slice p l c ∧ l ≤ 9223372036854775807 ∧ Rd W 1 p l (zs.map fun n => .int .i64 n) ∧ ∀ n ∈ zs, -9223372036854775808 ≤ n ∧ n ≤ 9223372036854775807) :
    call Try.prog fn_tenonlaw02_ArenaFull #[.int .i64 most, v] W fun v w' => v = .bool true ∧ Below W.heap.size W w' := by
  simp [IntKind.min, IntKind.max, IntKind.signed, IntKind.bits] at hm
  obtain ⟨p, l, c, zs, rfl, hl, hx, hz⟩ := h
  exact ArenaFull_walk hx hz hl hm
end Go.Proofs.Ytifcjbgkcgbefaa
