/- ArenaSplits, ArenaOnce: the walks. No conditions. -/
import Derived.Test.YtifcjbgkcgbefaaA2
import Derived.Test.YtifcjbgkcgbefaaOp
set_option linter.unusedVariables false
set_option linter.unusedSimpArgs false
namespace Go.Proofs.Ytifcjbgkcgbefaa
open Go.Sp Go.RowKit

theorem tenonref01_Pick_ok (x n : Int) (h0 : -9223372036854775808 ≤ x) (h1 : x ≤ 9223372036854775807) (h2 : -9223372036854775808 ≤ n) (h3 : n ≤ 9223372036854775807) :
    ∃ k : Int, PureCall Try.prog fn_tenonref01_Pick #[.int .i64 x, .int .i64 n] (.int .i64 k) ∧ 0 ≤ k ∧ (1 ≤ n → k < n) ∧ (n < 1 → k = 0) := by
  by_cases hn : n < 1
  · refine ⟨0, fun w => ?_, by omega, by omega, fun _ => rfl⟩
    apply tenonref01_Pick_call
    unfold tenonref01_Pick
    exact br_true (by simpa using hn) ⟨rfl, rfl⟩
  · have hb : -n < x.tmod n ∧ x.tmod n < n := by
      have h4 := Int.tmod_lt_of_pos x (show 0 < n by omega)
      have h5 : -n < x.tmod n := by
        by_cases hx : 0 ≤ x
        · have := Int.tmod_nonneg n hx
          omega
        · have h6 := Int.tmod_lt_of_pos (-x) (show 0 < n by omega)
          rw [Int.neg_tmod] at h6
          omega
      exact ⟨h5, h4⟩
    by_cases hneg : x.tmod n < 0
    · refine ⟨x.tmod n + n, fun w => ?_, by omega, by omega, by omega⟩
      apply tenonref01_Pick_call
      unfold tenonref01_Pick
      exact br_false (by simpa using hn) ⟨by omega, br_true (by simpa using hneg) <| arith_i64 (by omega) (by omega) ⟨rfl, rfl⟩⟩
    · refine ⟨x.tmod n, fun w => ?_, by omega, by omega, by omega⟩
      apply tenonref01_Pick_call
      unfold tenonref01_Pick
      exact br_false (by simpa using hn) ⟨by omega, br_false (by simpa using hneg) ⟨rfl, rfl⟩⟩

theorem ArenaSplits_row {W : World} {h : Int} (hh : IntKind.u64.min ≤ h ∧ h ≤ IntKind.u64.max) :
    call Try.prog fn_tenonlaw02_ArenaSplits #[.int .u64 h] W fun v w' => v = .bool true ∧ Below W.heap.size W w' := by
  simp [IntKind.min, IntKind.max, IntKind.signed, IntKind.bits] at hh
  apply tenonlaw02_ArenaSplits_call
  unfold tenonlaw02_ArenaSplits
  refine call_pure (arena_Split_ok hh.1 hh.2) ⟨_, _, rfl, arith_u64 (by omega) (by omega) <| shl_u64 (n := 32) (by omega) (by omega) (by omega) <| arith_i64 (by omega) (by omega) <| arith_u32 (by omega) (by omega) <| arith_u64 (by omega) (by omega) ?_⟩
  have e : bitw .or .u64 (h / 4294967296 * 2 ^ 32) (h % 4294967296 - 1 + 1) = h := by
    have := or_high (x := (h % 4294967296).toNat) (b := (h / 4294967296).toNat) (i := 32) (by omega) (by omega) (by omega)
    have e1 : (((h / 4294967296).toNat * 2 ^ 32 : Nat) : Int) = h / 4294967296 * 2 ^ 32 := by
      rw [Int.natCast_mul, Int.toNat_of_nonneg (by omega)]
      rfl
    have e2 : (((h % 4294967296).toNat : Nat) : Int) = h % 4294967296 - 1 + 1 := by omega
    rw [e1, e2] at this
    rw [this]
    omega
  rw [e]
  refine br_true (by simp) <| br_true (by simp; omega) <| br_true (by simp; omega) <| call_mono (tenonlaw02_awake_ok (Sat.start W)) ?_
  rintro _ w2 ⟨rfl, h2⟩
  exact asB_ok ⟨rfl, h2.below'⟩

/-! ### what is done -/
structure ActD where
  kind : Int
  at_ : Int
  x : Int
  raw : Int
structure ActAt (w : World) (a : Addr) (x : ActD) : Prop where
  c0 : w.cell? (a.add 0) = some (.int .i64 x.kind)
  c1 : w.cell? (a.add 1) = some (.int .i64 x.at_)
  c2 : w.cell? (a.add 2) = some (.int .i64 x.x)
  c3 : w.cell? (a.add 3) = some (.int .u64 x.raw)
  k0 : -9223372036854775808 ≤ x.kind ∧ x.kind ≤ 9223372036854775807
  k1 : -9223372036854775808 ≤ x.at_ ∧ x.at_ ≤ 9223372036854775807
  k2 : -9223372036854775808 ≤ x.x ∧ x.x ≤ 9223372036854775807
  k3 : 0 ≤ x.raw ∧ x.raw ≤ 18446744073709551615
structure Acts (w : World) (p : Option Addr) (l : Nat) (xs : List ActD) : Prop where
  len : xs.length = l
  ptr : 0 < l → ∃ a, p = some a
  at_ : ∀ a, p = some a → ∀ i x, xs[i]? = some x → ActAt w (a.add (i * 4)) x
theorem ActAt.old {w₀ w W : World} {a : Addr} {x : ActD} (h : ActAt W a x) (hs : Sat w₀ (old W) w) : ActAt w a x :=
  ⟨hs.old_cell h.c0, hs.old_cell h.c1, hs.old_cell h.c2, hs.old_cell h.c3, h.k0, h.k1, h.k2, h.k3⟩
theorem Acts.idx {w₀ w W : World} {p : Option Addr} {l : Nat} {xs : List ActD} {i : Int} {K : Addr → Prop} (h : Acts W p l xs) (hs : Sat w₀ (old W) w) (h0 : 0 ≤ i) (h1 : i < (l : Int))
    (hk : ∀ a x, xs[i.toNat]? = some x → ActAt w a x → K a) : Sp.idx p l i 4 K := by
  obtain ⟨a, rfl⟩ := h.ptr (by omega)
  have hlt : i.toNat < xs.length := by rw [h.len]; omega
  have hx := h.at_ a rfl i.toNat xs[i.toNat] (by simp [hlt])
  exact ⟨⟨h0, h1⟩, hk _ _ (by simp [hlt]) (hx.old hs)⟩
theorem Acts.idx' {w₀ w W : World} {p : Option Addr} {l : Nat} {xs : List ActD} {i : Int} {x : ActD} {K : Addr → Prop} (h : Acts W p l xs) (hs : Sat w₀ (old W) w) (h0 : 0 ≤ i) (h1 : i < (l : Int)) (hx : xs[i.toNat]? = some x)
    (hk : ∀ a, ActAt w a x → K a) : Sp.idx p l i 4 K :=
  h.idx hs h0 h1 fun a y hy ha => by
    obtain rfl := Option.some.inj (hx.symm.trans hy)
    exact hk a ha
section
open Go.ChangeShapes Go.WideShapes Go.Deep
variable {H : Type} {enc : TypeId × Value → H} {W : World} {base : Nat}
theorem open_Acts {v : Value} {d : DataW H} {ps : List MemPlace} (hv : Value.okWide Try.prog W .any base T_sl_tenonlaw02_Act v) (h : DataW.Trod enc Try.prog W 0 (fun _ => true) true T_sl_tenonlaw02_Act v d ps) :
    ∃ p l c xs, v = .slice p l c ∧ l ≤ 9223372036854775807 ∧ Acts W p l xs := by
  obtain ⟨p0, l0, c0, rfl⟩ := okWide_slice Try.underlying22 hv
  obtain ⟨fuel, h⟩ := h
  have hf : Try.prog.info? T_tenonlaw02_Act = some (Try.prog.types[T_tenonlaw02_Act]'(of_decide_eq_true (by kernel_rfl))) := by kernel_rfl
  obtain ⟨p, l, c, zs, e, hzl, hlc, hc, hp, hz⟩ := open_elems (sz := 4) (R := fun a (x : ActD) => ActAt W a x) Try.underlying22 hf (by kernel_rfl) h (fun a cs n y hcl hat htr => by
    match cs, hcl with
    | [c0, c1, c2, c3], _ =>
      have hu := Try.underlying32
      obtain ⟨_, _, f0⟩ := field_cell hu htr 0 rfl (by kernel_rfl) (v := c0) rfl
      obtain ⟨_, _, f1⟩ := field_cell hu htr 1 rfl (by kernel_rfl) (v := c1) rfl
      obtain ⟨_, _, f2⟩ := field_cell hu htr 2 rfl (by kernel_rfl) (v := c2) rfl
      obtain ⟨_, _, f3⟩ := field_cell hu htr 3 rfl (by kernel_rfl) (v := c3) rfl
      obtain ⟨m0, h0, _, w0⟩ := DataW.trod_int Try.underlying3 f0
      obtain ⟨m1, h1, _, w1⟩ := DataW.trod_int Try.underlying3 f1
      obtain ⟨m2, h2, _, w2⟩ := DataW.trod_int Try.underlying3 f2
      obtain ⟨m3, h3, _, w3⟩ := DataW.trod_int Try.underlying30 f3
      simp only [List.cons.injEq, and_true] at h0 h1 h2 h3
      subst h0 h1 h2 h3
      have r0 := wf_range w0
      have r1 := wf_range w1
      have r2 := wf_range w2
      have r3 := wf_range w3
      simp [IntKind.min, IntKind.max, IntKind.signed, IntKind.bits] at r0 r1 r2 r3
      exact ⟨⟨m0, m1, m2, m3⟩, by simpa using hat 0 (by omega), by simpa using hat 1 (by omega), by simpa using hat 2 (by omega), by simpa using hat 3 (by omega), r0, r1, r2, r3⟩)
  cases e
  exact ⟨p0, l0, c0, zs, rfl, by simp only [maxLen] at hc; omega, ⟨hzl, hp, fun a e i x hx => hz a e i x hx⟩⟩
end

/-! ### handles that were given -/
theorem hd_inj {i j : Nat} {g g' : Int} (hi : i < 4294967295) (hj : j < 4294967295) (h : hd i g = hd j g') : i = j ∧ g = g' := by
  unfold hd at h
  omega
/-- A handle that was given: its place has moved on, or isn't free. -/
def Was (s : AS) (h : Int) : Prop := ∃ (i : Nat) (g : Int) (y : Spot), h = hd i g ∧ s.sp[i]? = some y ∧ 0 ≤ g ∧ g ≤ y.g ∧ (g = y.g → i ∉ s.fr)
theorem Was.range {s : AS} {h : Int} (hs : AOk s) (hw : Was s h) : 0 ≤ h ∧ h ≤ 18446744073709551615 := by
  obtain ⟨i, g, y, rfl, hy, h0, h1, _⟩ := hw
  have hlt := (List.getElem?_eq_some_iff.1 hy).1
  have hg := hs.g y (List.mem_of_getElem? hy)
  have hl := hs.len
  have hm := hs.most1
  exact hd_range (by omega) h0 (by omega)
theorem Was.put {s : AS} {h x : Int} (hs : AOk s) (hw : Was s h) : Was (put s x).1 h ∧ ((put s x).2.2 = 0 → (put s x).2.1 ≠ h) := by
  obtain ⟨i, g, y, rfl, hy, h0, h1, h2⟩ := hw
  have hlt := (List.getElem?_eq_some_iff.1 hy).1
  have hl := hs.len
  have hm := hs.most1
  rcases put_cases hs x with ⟨fr, j, z, hfr, hz, hst, hput⟩ | ⟨hfr, hfull, hput⟩ | ⟨hfr, hfull, hput⟩
  · rw [hput]
    have hltj := (List.getElem?_eq_some_iff.1 hz).1
    rw [hfr] at h2
    refine ⟨?_, fun _ e => ?_⟩
    · by_cases e : j = i
      · subst e
        rw [hy] at hz
        cases hz
        exact ⟨j, g, ⟨x, y.g, 1⟩, rfl, by simp [hlt], h0, h1, fun e hm => h2 e (by simp [hm])⟩
      · exact ⟨i, g, y, rfl, by simp [List.getElem?_set, e, hy], h0, h1, fun e hm => h2 e (by simp [hm])⟩
    · obtain ⟨rfl, rfl⟩ := hd_inj (by omega) (by omega) e
      rw [hy] at hz
      cases hz
      exact h2 rfl (by simp)
  · rw [hput]
    exact ⟨⟨i, g, y, rfl, hy, h0, h1, h2⟩, fun e => by cases e⟩
  · rw [hput]
    refine ⟨⟨i, g, y, rfl, by rw [List.getElem?_append_left hlt]; exact hy, h0, h1, by simp⟩, fun _ e => ?_⟩
    obtain ⟨e, _⟩ := hd_inj (by omega) (by omega) e
    omega
theorem Was.new {s : AS} {x : Int} (hs : AOk s) (he : (Go.Proofs.Ytifcjbgkcgbefaa.put s x).2.2 = 0) : Was (Go.Proofs.Ytifcjbgkcgbefaa.put s x).1 (Go.Proofs.Ytifcjbgkcgbefaa.put s x).2.1 := by
  rcases put_cases hs x with ⟨fr, j, z, hfr, hz, hst, hput⟩ | ⟨hfr, hfull, hput⟩ | ⟨hfr, hfull, hput⟩
  · rw [hput]
    have hltj := (List.getElem?_eq_some_iff.1 hz).1
    have hg := hs.g z (List.mem_of_getElem? hz)
    have hnd := hs.nd
    rw [hfr] at hnd
    exact ⟨j, z.g, ⟨x, z.g, 1⟩, rfl, by simp [hltj], by omega, Int.le_refl _, fun _ hm => (List.nodup_append.1 hnd).2.2 j hm j (.head _) rfl⟩
  · rw [hput] at he
    cases he
  · rw [hput]
    have := hs.first0
    exact ⟨s.sp.length, s.first, ⟨x, s.first, 1⟩, rfl, by simp, by omega, Int.le_refl _, by simp⟩
theorem Was.drop {s : AS} {h h' : Int} (hs : AOk s) (hw : Was s h) : Was (dropR s h').1 h := by
  cases hf : find s h' with
  | none => rw [dropR_none hf]; exact hw
  | some i =>
    obtain ⟨y, hy, h1, _⟩ := (find_iff hs).1 hf
    rw [dropR_some hf hy]
    obtain ⟨j, g, z, rfl, hz, h2, h3, h4⟩ := hw
    have hlt := (List.getElem?_eq_some_iff.1 hy).1
    by_cases e : i = j
    · subst e
      rw [hy] at hz
      cases hz
      rcases drop_cases hy with ⟨hg, hd⟩ | ⟨hg, hd⟩
      · rw [hd]
        exact ⟨i, g, ⟨0, y.g + 1, 0⟩, rfl, by simp [hlt], h2, by show g ≤ y.g + 1; omega, fun e => by have e : g = y.g + 1 := e; omega⟩
      · rw [hd]
        exact ⟨i, g, ⟨0, y.g, 2⟩, rfl, by simp [hlt], h2, h3, h4⟩
    · rcases drop_cases hy with ⟨hg, hd⟩ | ⟨hg, hd⟩
      · rw [hd]
        exact ⟨j, g, z, rfl, by simp [List.getElem?_set, e, hz], h2, h3, fun e' hm => by
          rcases List.mem_append.1 hm with hm | hm
          · exact h4 e' hm
          · rw [List.mem_singleton] at hm
            exact e hm.symm⟩
      · rw [hd]
        exact ⟨j, g, z, rfl, by simp [List.getElem?_set, e, hz], h2, h3, h4⟩
theorem put_range {s : AS} {x : Int} (hs : AOk s) : 0 ≤ (put s x).2.1 ∧ (put s x).2.1 ≤ 18446744073709551615 ∧ ((put s x).2.2 = 0 ∨ (put s x).2.2 = 3) := by
  have hl := hs.len
  have hm := hs.most1
  rcases put_cases hs x with ⟨fr, j, z, hfr, hz, hst, hput⟩ | ⟨hfr, hfull, hput⟩ | ⟨hfr, hfull, hput⟩
  · rw [hput]
    have hltj := (List.getElem?_eq_some_iff.1 hz).1
    have hg := hs.g z (List.mem_of_getElem? hz)
    have := hd_range (i := j) (g := z.g) (by omega) (by omega) (by omega)
    exact ⟨this.1, this.2, .inl rfl⟩
  · rw [hput]; simp
  · rw [hput]
    have h0 := hs.first0
    have h1 := hs.first1
    have := hd_range (i := s.sp.length) (g := s.first) (by omega) (by omega) (by omega)
    exact ⟨this.1, this.2, .inl rfl⟩

theorem ArenaOnce_walk {W : World} {p : Option Addr} {l c : Nat} {xs : List ActD} {most back : Int} (hx : Acts W p l xs) (hl : l ≤ 9223372036854775807) (hm : -9223372036854775808 ≤ most ∧ most ≤ 9223372036854775807) (hb : 0 ≤ back ∧ back ≤ 255) :
    call Try.prog fn_tenonlaw02_ArenaOnce #[.int .i64 most, .int .u8 back, .slice p l c] W fun v w' => v = .bool true ∧ Below W.heap.size W w' := by
  apply tenonlaw02_ArenaOnce_call
  unfold tenonlaw02_ArenaOnce
  obtain ⟨k, hp, hk0, hk1, _⟩ := tenonref01_Pick_ok most 5 hm.1 hm.2 (by omega) (by omega)
  have hk1 := hk1 (by omega)
  refine call_pure hp <| asI_ok <| arith_i64 (by omega) (by omega) <| arith_u32 (by omega) (by omega) <| arith_u32 (by omega) (by omega) <| call_mono (arena_New_ok (Sat.start W) (by omega) (by omega) (by omega)) ?_
  rintro _ w1 ⟨a, rfl, h1⟩
  have k1 := AOk.start (most := 1 + k) (first := 4294967295 - back) (by omega) (by omega) (by omega) (by omega)
  have done : ∀ {w F}, Sat W (F * old W) w → call Try.prog fn_tenonlaw02_awake #[] w fun v w' => asB v fun b => (Value.bool b) = .bool true ∧ Below W.heap.size W w' := by
    intro w F h
    refine call_mono (tenonlaw02_awake_ok h) ?_
    rintro _ w2 ⟨rfl, h2⟩
    exact asB_ok ⟨rfl, h2.right.below'⟩
  refine ⟨_, _, rfl, br_false rfl ⟨fun q m d i w n => ∃ (s : AS) (gs : List Int), 0 ≤ i ∧ i ≤ 200 ∧ n = 200 - i.toNat ∧ gs.length ≤ i ∧ AOk s ∧ (∀ h ∈ gs, Was s h) ∧ Sat W (Ar a s * (tab T_uint64 1 fU64 q m d gs * old W)) w,
    ⟨_, _, [], by omega, by omega, rfl, by simp, k1, by simp, (tab_nil T_uint64 1 fU64 h1).perm (by ac_rfl)⟩, ?_⟩⟩
  rintro u q m d i w3 n ⟨s, gs, h0, hi, rfl, hgl, hs, hgs, h3⟩
  have hml := tab_len fU64_len (by decide) h3.right.left
  refine br_dec (fun hlt => br_dec (fun hlt2 => ?_) (fun _ => done (h3.perm (by rw [sep_assoc])))) (fun _ => done (h3.perm (by rw [sep_assoc])))
  refine hx.idx h3.right.right h0 hlt fun a0 x hxa ha => ldI_ok ha.c0 ?_
  obtain ⟨k2, hp2, hk20, hk21, _⟩ := tenonref01_Pick_ok x.kind 2 ha.k0.1 ha.k0.2 (by omega) (by omega)
  refine call_pure hp2 <| asI_ok <| br_split (fun he => ?_) (fun hne => ?_)
  · refine call_mono (arena_Put_ok (x := i) h3 hs) ?_
    rintro _ w4 ⟨rfl, h4⟩
    have hs4 := hs.put i
    have hr := put_range (x := i) hs
    refine ⟨_, _, rfl, br_split (fun he0 => ?_) (fun hne0 => ?_)⟩
    · have he0 : (put s i).2.2 = 0 := by simpa using he0
      refine ⟨fun j w n => 0 ≤ j ∧ j ≤ m ∧ n = m - j.toNat ∧ Sat W (Ar a (put s i).1 * (tab T_uint64 1 fU64 q m d gs * old W)) w, ⟨_, by omega, by omega, rfl, h4⟩, ?_⟩
      rintro u j w5 n ⟨hj0, hj1, rfl, h5⟩
      refine br_dec (fun hlt3 => ?_) (fun hge => ?_)
      · obtain ⟨y, hy⟩ : ∃ y, gs[j.toNat]? = some y := ⟨gs[j.toNat]'(by omega), by simp⟩
        have hyw := hgs y (List.mem_of_getElem? hy)
        refine tab_idx fU64_len h5.right.left (by decide) hj0 hy fun g hg => ldI_ok (tab_cell fU64_len (j := 0) h5.right.left hg hy (by decide) rfl) <| br_false ?_ <| arith_i64 (by omega) (by omega) ⟨_, by omega, by omega, by omega, rfl, h5⟩
        have := (hyw.put (x := i) hs).2 he0
        simp
        exact fun e => this e.symm
      · refine new_ok h5 fun k w6 h6 => tab_app u64sTy fU64_len (by decide) fU64_one (x := (put s i).2.1) (h6.perm (B := _ * (tab T_uint64 1 fU64 q m d gs * (Ar a (put s i).1 * old W))) (by ac_rfl)) rfl (by simp only [maxLen]; omega) (by omega) fun p' c' w7 h7 => ?_
        refine arith_i64 (by omega) (by omega) ⟨_, by omega, (put s i).1, gs ++ [(put s i).2.1], by omega, by omega, rfl, by simp; omega, hs4, ?_, h7.p1⟩
        intro h hh
        rcases List.mem_append.1 hh with hh | hh
        · exact ((hgs h hh).put hs).1
        · rw [List.mem_singleton] at hh
          subst hh
          exact Was.new hs he0
    · exact arith_i64 (by omega) (by omega) ⟨_, by omega, (put s i).1, gs, by omega, by omega, rfl, by omega, hs4, fun h hh => ((hgs h hh).put hs).1, h4⟩
  · refine br_dec (fun hgt => ?_) (fun hle => arith_i64 (by omega) (by omega) ⟨_, by omega, s, gs, by omega, by omega, rfl, by omega, hs, hgs, h3⟩)
    refine hx.idx' h3.right.right h0 hlt hxa fun a0 ha => ldI_ok ha.c1 ?_
    obtain ⟨k3, hp3, hk30, hk31, _⟩ := tenonref01_Pick_ok x.at_ m ha.k1.1 ha.k1.2 (by omega) (by omega)
    have hk31 := hk31 (by omega)
    obtain ⟨y, hy⟩ : ∃ y, gs[k3.toNat]? = some y := ⟨gs[k3.toNat]'(by omega), by simp⟩
    have hyw := hgs y (List.mem_of_getElem? hy)
    have hyr := hyw.range hs
    refine call_pure hp3 <| asI_ok <| tab_idx fU64_len h3.right.left (by decide) hk30 hy fun g hg => ldI_ok (tab_cell fU64_len (j := 0) h3.right.left hg hy (by decide) rfl) <| call_mono (arena_Drop_ok h3 hs hyr.1 hyr.2) ?_
    rintro _ w4 ⟨rfl, h4⟩
    exact ⟨_, _, rfl, arith_i64 (by omega) (by omega) ⟨_, by omega, (dropR s y).1, gs, by omega, by omega, rfl, by omega, hs.dropR y, fun h hh => (hgs h hh).drop hs, h4⟩⟩
theorem ArenaOnce_row {W : World} {v : Value} {most back : Int} (hm : IntKind.i64.min ≤ most ∧ most ≤ IntKind.i64.max) (hb : IntKind.u8.min ≤ back ∧ back ≤ IntKind.u8.max) (h : ∃ p l c xs, v = .slice p l c ∧ l ≤ 9223372036854775807 ∧ Acts W p l xs) :
    call Try.prog fn_tenonlaw02_ArenaOnce #[.int .i64 most, .int .u8 back, v] W fun v w' => v = .bool true ∧ Below W.heap.size W w' := by
  simp [IntKind.min, IntKind.max, IntKind.signed, IntKind.bits] at hm hb
  obtain ⟨p, l, c, xs, rfl, hl, hx⟩ := h
  exact ArenaOnce_walk hx hl hm hb
end Go.Proofs.Ytifcjbgkcgbefaa
