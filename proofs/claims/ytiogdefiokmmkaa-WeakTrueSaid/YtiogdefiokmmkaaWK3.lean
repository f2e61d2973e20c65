/- Contracts of the document's layer 12 (weak). No conditions. -/
import Derived.Test.YtiogdefiokmmkaaWK2
import Derived.Test.YtiogdefiokmmkaaSpC
set_option linter.unusedVariables false
set_option linter.unusedSimpArgs false
set_option maxRecDepth 100000
namespace Go.Proofs.Ytiogdefiokmmkaa
open Go.Sp Go.RowKit

abbrev RB := Int × WB
def rbF (e : RB) : List Value := [.int .u64 e.1, .int .u64 e.2.tg, .bool e.2.dead, .int .u32 e.2.cn]
theorem rbF_len (e : RB) : (rbF e).length = 4 := rfl
theorem rbF_one (e : RB) : ∀ u ∈ rbF e, u.oneCell' = true := by simp [rbF, Value.oneCell']
theorem rbsTy : SliceTy Try.prog T_sl_tenonref12_Block T_tenonref12_Block (.agg #[.int .u64 0, .int .u64 0, .bool false, .int .u32 0]) 4 24 := ⟨by kernel_rfl, by kernel_rfl, rfl, by decide⟩
structure WRel (s : WS) (L : List RB) : Prop where
  nd : (L.map (·.1)).Nodup
  mem : ∀ h b, (h, b) ∈ L ↔ Bl s h b
  len : L.length = s.cnt
abbrev z0 (s : WS) : AS Int := mapA (fun _ => (0 : Int)) s
def rtA (p : Option Addr) (r l c : Nat) : Array Value := #[.pointer (some ⟨r, 0, none⟩), .slice p l c]
def atW (L : List RB) (h : Int) : Int := match L.findIdx? (fun e => e.1 == h) with | some j => (j : Int) | none => -1
theorem atW_cases {N : Int} {s : WS} {L : List RB} (hs : WOk N s) (hr : WRel s L) (h : Int) :
    ((∀ b, ¬ Bl s h b) ∧ atW L h = -1) ∨ ∃ i y k b j, Spt s h i y k b ∧ atW L h = (j : Nat) ∧ L[j]? = some (h, b) := by
  unfold atW
  cases hx : L.findIdx? (fun e => e.1 == h) with
  | none =>
    left
    rw [List.findIdx?_eq_none_iff] at hx
    refine ⟨fun b hb => ?_, rfl⟩
    have := hx _ ((hr.mem h b).2 hb)
    simp at this
  | some j =>
    right
    rw [List.findIdx?_eq_some_iff_getElem] at hx
    obtain ⟨hj, he, _⟩ := hx
    have he : L[j].1 = h := by simpa using he
    have hm : (h, L[j].2) ∈ L := by
      have := List.getElem_mem hj
      rw [← he]
      exact this
    obtain ⟨i, y, k, p⟩ := ((hr.mem _ _).1 hm).spt
    refine ⟨i, y, k, _, j, p, rfl, ?_⟩
    rw [List.getElem?_eq_getElem hj, ← he]
def RT (b r : Nat) (s : WS) : HP := ex fun L => ex fun p => ex fun l => ex fun c =>
  prop (WRel s L) * (blk b (rtA p r l c) T_tenonref12_Table * (tab T_tenonref12_Block 4 rbF p l c L * RAr r (z0 s)))
section
variable {w₀ w : World} {F : HP} {b r c : Nat} {N : Int} {s : WS} {L : List RB} {p : Option Addr}
theorem RT.open_ (h : Sat w₀ (RT b r s * F) w) : ∃ L p c, WRel s L ∧ Sat w₀ (blk b (rtA p r L.length c) T_tenonref12_Table * (tab T_tenonref12_Block 4 rbF p L.length c L * (RAr r (z0 s) * F))) w := by
  obtain ⟨L, h⟩ := Sat.ex h
  obtain ⟨p, h⟩ := Sat.ex h
  obtain ⟨l, h⟩ := Sat.ex h
  obtain ⟨c, h⟩ := Sat.ex h
  have h := h.perm (B := prop (WRel s L) * (blk b (rtA p r l c) T_tenonref12_Table * (tab T_tenonref12_Block 4 rbF p l c L * (RAr r (z0 s) * F)))) (by ac_rfl)
  have e1 := tab_len rbF_len (by decide) h.right.right.left
  subst e1
  exact ⟨L, p, c, h.prop, h.right⟩
theorem RT.shut {l : Nat} (hr : WRel s L) (h : Sat w₀ (blk b (rtA p r l c) T_tenonref12_Table * (tab T_tenonref12_Block 4 rbF p l c L * (RAr r (z0 s) * F))) w) : Sat w₀ (RT b r s * F) w :=
  Sat.to_ex L (Sat.to_ex p (Sat.to_ex l (Sat.to_ex c ((h.add_prop hr).perm (by ac_rfl)))))
theorem WRel.small (hs : AOk s) (hr : WRel s L) : L.length ≤ 65536 := by
  have := hr.len
  have := hs.bound
  have := hs.len
  have := hs.most1
  omega
theorem rt_New_ok {most : Int} (h : Sat w₀ F w) (h0 : 1 ≤ most) (h1 : most ≤ 65536) :
    call Try.prog fn_tenonref12_New #[.int .i64 most] w fun v w' => ∃ b r, v = .pointer (some ⟨b, 0, none⟩) ∧ Sat w₀ (RT b r ⟨most, 1, [], [], 0⟩ * F) w' := by
  apply tenonref12_New_call
  unfold tenonref12_New
  refine call_mono (ref_New_ok h h0 h1 (by decide)) ?_
  rintro _ w1 ⟨r, rfl, h2⟩
  exact asP_ok <| br_false rfl <| new_ok h2 fun b w2 h3 => ⟨b, r, rfl, RT.shut (p := none) (c := 0) (l := 0) (L := []) ⟨by simp, fun h e => ⟨fun hm => by simp at hm, fun ⟨k, i, y, hy, _⟩ => by simp at hy⟩, rfl⟩ ((tab_nil T_tenonref12_Block 4 rbF h3).perm (by
    show tab _ _ _ _ _ _ _ * (blk b _ _ * (RAr r (z0 (⟨most, 1, [], [], 0⟩ : WS)) * F)) = _
    unfold rtA
    ac_rfl))⟩
theorem rt_New_no {most : Int} (h0 : most < 1 ∨ most > 65536) : PureCall Try.prog fn_tenonref12_New #[.int .i64 most] (.pointer none) := by
  intro w
  apply tenonref12_New_call
  unfold tenonref12_New
  exact call_pure (ref_New_no (by omega)) <| asP_ok <| br_true rfl ⟨rfl, rfl⟩
theorem rt_At_ok {h : Int} (hh : Sat w₀ (blk b (rtA p r L.length c) T_tenonref12_Table * (tab T_tenonref12_Block 4 rbF p L.length c L * F)) w) (hL : L.length ≤ 65536) :
    call Try.prog fn_tenonref12_Table_At #[.pointer (some ⟨b, 0, none⟩), .int .u64 h] w fun v w' => w' = w ∧ v = .int .i64 (atW L h) := by
  apply tenonref12_Table_At_call
  unfold tenonref12_Table_At
  refine ⟨fun n w' m => 0 ≤ n ∧ n ≤ L.length ∧ m = L.length - n.toNat ∧ (∀ e ∈ L.take n.toNat, e.1 ≠ h) ∧ w' = w, ⟨_, by omega, by omega, rfl, by simp, rfl⟩, ?_⟩
  rintro u n w1 m ⟨h0, h1, rfl, hno, rfl⟩
  refine nn_ok <| ldS_ok (hh.left.cell (i := 1) rfl) <| br_dec (fun hlt => ?_) (fun hge => ?_)
  · obtain ⟨e, he⟩ : ∃ e, L[n.toNat]? = some e := ⟨L[n.toNat]'(by omega), by simp⟩
    have hT := hh.right.left
    refine nn_ok <| ldS_ok (hh.left.cell (i := 1) rfl) <| tab_idx rbF_len hT (by decide) h0 he fun g hg => ldI_ok (tab_cell rbF_len (j := 0) hT hg he (by decide) rfl) <| br_split (fun hq => ?_) (fun hq => ?_)
    · have hq : e.1 = h := by simpa using hq
      refine ⟨rfl, ?_⟩
      have : L.findIdx? (fun e => e.1 == h) = some n.toNat := by
        rw [List.findIdx?_eq_some_iff_getElem]
        refine ⟨by omega, ?_, fun j hj => ?_⟩
        · have e0 : L[n.toNat]? = some (L[n.toNat]'(by omega)) := List.getElem?_eq_getElem _
          rw [he] at e0
          have e0 := Option.some.inj e0
          rw [← e0]
          simpa using hq
        · have hm : L[j]'(by omega) ∈ L.take n.toNat := by
            rw [List.mem_iff_getElem?]
            exact ⟨j, by rw [List.getElem?_take, if_pos hj]; simp⟩
          simpa using hno _ hm
      rw [atW, this]
      show Value.int .i64 n = Value.int .i64 (n.toNat : Int)
      rw [Int.toNat_of_nonneg h0]
    · have hq : e.1 ≠ h := by simpa using hq
      refine arith_i64 (by omega) (by omega) ⟨_, by omega, by omega, by omega, rfl, fun e' he' => ?_, rfl⟩
      rw [show (n + 1).toNat = n.toNat + 1 by omega, List.take_add_one, he] at he'
      rcases List.mem_append.1 he' with he' | he'
      · exact hno e' he'
      · simp at he'; subst he'; exact hq
  · refine ⟨rfl, ?_⟩
    rw [List.take_of_length_le (by omega)] at hno
    have : L.findIdx? (fun e => e.1 == h) = none := by
      rw [List.findIdx?_eq_none_iff]
      intro e he
      simpa using hno e he
    rw [atW, this]
theorem rt_Living_ok {t : Int} (hh : Sat w₀ (blk b (rtA p r L.length c) T_tenonref12_Table * (tab T_tenonref12_Block 4 rbF p L.length c L * F)) w) (hL : L.length ≤ 65536) :
    call Try.prog fn_tenonref12_Table_Living #[.pointer (some ⟨b, 0, none⟩), .int .u64 t] w fun v w' => w' = w ∧
      ((v = .int .i64 (-1) ∧ ∀ e ∈ L, e.2.tg = t → e.2.dead = false → False) ∨ ∃ j e, v = .int .i64 (j : Nat) ∧ L[j]? = some e ∧ e.2.tg = t ∧ e.2.dead = false) := by
  apply tenonref12_Table_Living_call
  unfold tenonref12_Table_Living
  refine ⟨fun n w' m => 0 ≤ n ∧ n ≤ L.length ∧ m = L.length - n.toNat ∧ (∀ e ∈ L.take n.toNat, e.2.tg = t → e.2.dead = false → False) ∧ w' = w, ⟨_, by omega, by omega, rfl, by simp, rfl⟩, ?_⟩
  rintro u n w1 m ⟨h0, h1, rfl, hno, rfl⟩
  refine nn_ok <| ldS_ok (hh.left.cell (i := 1) rfl) <| br_dec (fun hlt => ?_) (fun hge => ?_)
  · obtain ⟨e, he⟩ : ∃ e, L[n.toNat]? = some e := ⟨L[n.toNat]'(by omega), by simp⟩
    have hT := hh.right.left
    have step : (e.2.tg = t → e.2.dead = false → False) → ∀ e' ∈ L.take (n + 1).toNat, e'.2.tg = t → e'.2.dead = false → False := by
      intro hq e' he'
      rw [show (n + 1).toNat = n.toNat + 1 by omega, List.take_add_one, he] at he'
      rcases List.mem_append.1 he' with he' | he'
      · exact hno e' he'
      · simp at he'; subst he'; exact hq
    refine nn_ok <| ldS_ok (hh.left.cell (i := 1) rfl) <| tab_idx rbF_len hT (by decide) h0 he fun g hg => ldI_ok (tab_cell rbF_len (j := 1) hT hg he (by decide) rfl) <| br_split (fun hq => ?_) (fun hq => ?_)
    · have hq : e.2.tg = t := by simpa using hq
      refine nn_ok <| ldS_ok (hh.left.cell (i := 1) rfl) <| tab_idx rbF_len hT (by decide) h0 he fun g hg => ldB_ok (tab_cell rbF_len (j := 2) hT hg he (by decide) rfl) <| br_split (fun hd => ?_) (fun hd => ?_)
      · refine ⟨rfl, .inr ⟨n.toNat, e, by rw [Int.toNat_of_nonneg h0], he, hq, by simpa using hd⟩⟩
      · exact arith_i64 (by omega) (by omega) ⟨_, by omega, by omega, by omega, rfl, step (fun _ hd' => by rw [hd'] at hd; cases hd), rfl⟩
    · exact arith_i64 (by omega) (by omega) ⟨_, by omega, by omega, by omega, rfl, step (fun h' _ => by rw [h'] at hq; simp at hq), rfl⟩
  · refine ⟨rfl, .inl ⟨rfl, ?_⟩⟩
    rwa [List.take_of_length_le (by omega)] at hno
theorem WRel.setX (hs : WOk N s) (hr : WRel s L) {h i y k bb j} (q : Spt s h i y k bb) (hj : L[j]? = some (h, bb)) (b' : WB) : WRel (setX s i (some (k, b'))) (L.set j (h, b')) := by
  have hlt := (List.getElem?_eq_some_iff.1 hj).1
  have hnd := hr.nd
  refine ⟨?_, fun h' c => ?_, ?_⟩
  · have : (L.set j (h, b')).map (·.1) = L.map (·.1) := by
      apply List.ext_getElem?
      intro m
      rw [List.getElem?_map, List.getElem?_map, List.getElem?_set]
      split
      · rename_i e
        subst e
        rw [hj]
        rfl
      · rfl
    rw [this]
    exact hnd
  · rw [bl_setX hs q, ← hr.mem]
    constructor
    · intro hm
      obtain ⟨m, hm⟩ := List.mem_iff_getElem?.1 hm
      rcases set_get hm with ⟨rfl, e⟩ | ⟨hne, hm2⟩
      · cases e; exact .inl ⟨rfl, rfl⟩
      · refine .inr ⟨List.mem_of_getElem? hm2, ?_⟩
        rintro rfl
        have e1 : (L.map (·.1))[m]? = some h' := by rw [List.getElem?_map, hm2]; rfl
        have e2 : (L.map (·.1))[j]? = some h' := by rw [List.getElem?_map, hj]; rfl
        have hlm : m < (L.map (·.1)).length := by rw [List.length_map]; exact (List.getElem?_eq_some_iff.1 hm2).1
        have := (List.getElem?_inj hlm hnd).1 (e1.trans e2.symm)
        exact hne this
    · rintro (⟨rfl, rfl⟩ | ⟨hm, hne⟩)
      · exact List.mem_of_getElem? (i := j) (by simp [hlt])
      · obtain ⟨m, hm⟩ := List.mem_iff_getElem?.1 hm
        refine List.mem_of_getElem? (i := m) ?_
        rw [List.getElem?_set, if_neg ?_]
        · exact hm
        · rintro rfl
          rw [hj] at hm
          cases hm
          exact hne rfl
  · rw [List.length_set, hr.len]
    unfold Proofs.Ytiogdefiokmmkaa.setX
    rw [q.get]
theorem WRel.put (hs : AOk s) (hr : WRel s L) {k : Nat} {c : WB} (he : (put s (some (k, c))).2.2 = 0) : WRel (put s (some (k, c))).1 (L ++ [((put s (some (k, c))).2.1, c)]) := by
  refine ⟨?_, fun h e => ?_, ?_⟩
  · rw [List.map_append, List.nodup_append]
    refine ⟨hr.nd, by simp, fun a ha b hb e => ?_⟩
    subst e
    simp at hb
    subst hb
    obtain ⟨q, hq, hq1⟩ := List.mem_map.1 ha
    obtain ⟨q1, q2⟩ := q
    subst hq1
    exact bl_fresh hs he ((hr.mem _ _).1 hq)
  · rw [bl_put hs he, ← hr.mem]
    simp
  · rw [put_cnt hs he, List.length_append, hr.len]
    rfl
theorem WRel.drop (hs : WOk N s) (hr : WRel s L) {h i y k bb j} (q : Spt s h i y k bb) (hj : L[j]? = some (h, bb)) : WRel (dropS none s i) (L.take j ++ L.drop (j + 1)) := by
  have hlt := (List.getElem?_eq_some_iff.1 hj).1
  have e : L = L.take j ++ (h, bb) :: L.drop (j + 1) := by
    conv => lhs; rw [← List.take_append_drop j L, List.drop_eq_getElem_cons hlt]
    rw [List.getElem?_eq_getElem hlt] at hj
    simp only [Option.some.injEq] at hj
    rw [hj]
  have hnd := hr.nd
  rw [e, List.map_append, List.map_cons] at hnd
  obtain ⟨n1, n2, n3⟩ := List.nodup_append.1 hnd
  rw [List.nodup_cons] at n2
  refine ⟨?_, fun h' e' => ?_, ?_⟩
  · rw [List.map_append, List.nodup_append]
    exact ⟨n1, n2.2, fun a ha b hb => n3 a ha b (List.mem_cons_of_mem _ hb)⟩
  · rw [bl_drop hs q, ← hr.mem]
    conv => rhs; rw [e]
    simp only [List.mem_append, List.mem_cons]
    constructor
    · rintro (hm | hm)
      · refine ⟨.inl hm, fun e2 => ?_⟩
        exact n3 h' (List.mem_map.2 ⟨_, hm, rfl⟩) h (.head _) e2
      · refine ⟨.inr (.inr hm), fun e2 => ?_⟩
        exact n2.1 (List.mem_map.2 ⟨_, hm, e2⟩)
    · rintro ⟨hm | hm | hm, hne⟩
      · exact .inl hm
      · cases hm; exact absurd rfl hne
      · exact .inr hm
  · have := drop_cnt (z := (none : WP)) hs.ok q.get q.st
    have := hr.len
    rw [List.length_append, List.length_take, List.length_drop]
    omega
theorem z0_setX {h i y k bb} (q : Spt s h i y k bb) (b' : WB) : z0 (setX s i (some (k, b'))) = z0 s := setX_unit fun _ _ => rfl
theorem rt_Of_ok {s' : WS} {t h e : Int} (hh : Sat w₀ (RT b r s * F) w) (hs : WOk N s) (hN : N < 4294967295) {f : Int → Option Int} (hf : FRel f s) (hO : OfR s t s' h e) :
    call Try.prog fn_tenonref12_Table_Of #[.pointer (some ⟨b, 0, none⟩), .int .u64 t] w fun v w' => v = .int .u64 h ∧ Sat w₀ (RT b r s' * F) w' := by
  apply tenonref12_Table_Of_call
  unfold tenonref12_Table_Of
  obtain ⟨L, p, c, hr, h2⟩ := RT.open_ hh
  have hsm := hr.small hs.ok
  refine call_mono (rt_Living_ok (t := t) h2 hsm) ?_
  rintro _ w1 ⟨rfl, ⟨rfl, hn⟩ | ⟨j, ⟨h', bb⟩, rfl, hj, ht, hd⟩⟩
  · cases hO with
    | old q e1 e2 => exact (hn _ ((hr.mem _ _).2 q.bl) e1 e2).elim
    | new k hno =>
      refine asI_ok <| br_false (by decide) <| nn_ok <| ldP_ok (h2.left.cell (i := 0) rfl) <| call_mono (ref_Put_ok (x := 0) (h2.perm (B := RAr r (z0 s) * (blk b (rtA p r L.length c) T_tenonref12_Table * (tab T_tenonref12_Block 4 rbF p L.length c L * F))) (by ac_rfl)) hs.ok.mapA) ?_
      have em := put_mapA (f := fun _ : WP => (0 : Int)) hs.ok (some (k, ⟨t, false, 1⟩))
      rw [em]
      rintro _ w4 ⟨rfl, h5⟩
      have hz := put_zero (x := (some (k, ⟨t, false, 1⟩) : WP)) hs.ok
      have h6 := h5.perm (B := blk b (rtA p r L.length c) T_tenonref12_Table * (tab T_tenonref12_Block 4 rbF p L.length c L * (RAr r (z0 (put s (some (k, ⟨t, false, 1⟩))).1) * F))) (by ac_rfl)
      refine asI_ok <| br_split (fun h0 => ?_) (fun h0 => ?_)
      · have h0 : (put s (some (k, ⟨t, false, 1⟩))).2.1 ≠ 0 := by simpa using h0
        have he : (put s (some (k, ⟨t, false, 1⟩))).2.2 = 0 := by
          by_cases hh : (put s (some (k, ⟨t, false, 1⟩))).2.2 = 0
          · exact hh
          · exact absurd (hz.2 hh) h0
        refine nn_ok <| ldS_ok (h6.left.cell (i := 1) rfl) ⟨rfl, new_ok h6 fun k13 w5 h7 => ?_⟩
        refine tab_app rbsTy rbF_len (by decide) rbF_one (x := ((put s (some (k, ⟨t, false, 1⟩))).2.1, ⟨t, false, 1⟩)) (h7.perm (B := _ * (tab T_tenonref12_Block 4 rbF p L.length c L * (blk b (rtA p r L.length c) T_tenonref12_Table * (RAr r (z0 (put s (some (k, ⟨t, false, 1⟩))).1) * F)))) (by ac_rfl)) rfl (by simp only [maxLen]; omega) (by omega) fun p' c' w6 h8 => ?_
        refine nn_ok <| st_ok (i := 1) h8.p1 (by simp [rtA]) fun w7 h9 => ⟨rfl, ?_⟩
        exact RT.shut (p := p') (l := L.length + 1) (c := c') (hr.put hs.ok he) (h9.perm (by
          show blk b #[.pointer (some ⟨r, 0, none⟩), .slice p' (L.length + 1) c'] T_tenonref12_Table * _ = _
          unfold rtA
          ac_rfl))
      · have h0 : (put s (some (k, ⟨t, false, 1⟩))).2.1 = 0 := by simpa using h0
        have hne := hz.1 h0
        refine ⟨rfl, ?_⟩
        rw [put_same hs.ok hne] at h6 ⊢
        exact RT.shut hr h6
  · cases hO with
    | new k hno => exact (hno h' bb ((hr.mem _ _).1 (List.mem_of_getElem? hj)) ht hd).elim
    | @old _ i y k bo q e1 e2 =>
      have a1 := (hf t h).2 ⟨bo, q.bl, e1, e2⟩
      have a2 := (hf t h').2 ⟨bb, (hr.mem _ _).1 (List.mem_of_getElem? hj), ht, hd⟩
      obtain rfl : h = h' := Option.some.inj (a1.symm.trans a2)
      obtain rfl := Bl.one hs.ok q.bl ((hr.mem _ _).1 (List.mem_of_getElem? hj))
      have hrg := hs.rng q
      have hj' : L[(j : Int).toNat]? = some (h, bo) := by rw [Int.toNat_natCast]; exact hj
      have hlt := (List.getElem?_eq_some_iff.1 hj).1
      refine asI_ok <| br_true (by simp) <| nn_ok <| ldS_ok (h2.left.cell (i := 1) rfl) <| tab_idx rbF_len h2.right.left (by decide) (by omega) hj' fun g hg => ldI_ok (tab_cell rbF_len (j := 3) h2.right.left hg hj' (by decide) rfl) <| arith_u32 (by dsimp only; omega) (by dsimp only; omega) <| tab_idx rbF_len h2.right.left (by decide) (by omega) hj' fun g hg => ?_
      rw [Int.toNat_natCast]
      refine tab_st rbF_len (y' := (h, { bo with cn := bo.cn + 1 })) h2.p1 hg hj (by decide) rfl fun w2 h3 => ?_
      have h4 := h3.p1
      have hj2 : (L.set j (h, { bo with cn := bo.cn + 1 }))[(j : Int).toNat]? = some (h, { bo with cn := bo.cn + 1 }) := by rw [Int.toNat_natCast]; simp [hlt]
      refine nn_ok <| ldS_ok (h4.left.cell (i := 1) rfl) <| tab_idx rbF_len h4.right.left (by decide) (by omega) hj2 fun g hg => ldI_ok (tab_cell rbF_len (j := 0) h4.right.left hg hj2 (by decide) rfl) ⟨rfl, ?_⟩
      refine RT.shut (p := p) (c := c) (l := L.length) (hr.setX hs q hj _) ?_
      rw [z0_setX q]
      exact h4
theorem rt_Down_ok {h i y k bb j} (hh : Sat w₀ (blk b (rtA p r L.length c) T_tenonref12_Table * (tab T_tenonref12_Block 4 rbF p L.length c L * (RAr r (z0 s) * F))) w) (hs : WOk N s) (hN : N < 4294967295) (hr : WRel s L) (q : Spt s h i y k bb) (hj : L[j]? = some (h, bb)) :
    call Try.prog fn_tenonref12_Table_Down #[.pointer (some ⟨b, 0, none⟩), .int .i64 (j : Nat)] w fun v w' => v = .int .u32 (bb.cn - 1) ∧ (bb.cn = 1 → Sat w₀ (RT b r (dropS none s i) * F) w') ∧ (bb.cn ≠ 1 → Sat w₀ (RT b r (setX s i (some (k, { bb with cn := bb.cn - 1 }))) * F) w') := by
  apply tenonref12_Table_Down_call
  unfold tenonref12_Table_Down
  have hsm := hr.small hs.ok
  have hrg := hs.rng q
  have hj' : L[(j : Int).toNat]? = some (h, bb) := by rw [Int.toNat_natCast]; exact hj
  have hlt := (List.getElem?_eq_some_iff.1 hj).1
  refine nn_ok <| ldS_ok (hh.left.cell (i := 1) rfl) <| tab_idx rbF_len hh.right.left (by decide) (by omega) hj' fun g hg => ldI_ok (tab_cell rbF_len (j := 3) hh.right.left hg hj' (by decide) rfl) <| arith_u32 (by dsimp only; omega) (by dsimp only; omega) <| tab_idx rbF_len hh.right.left (by decide) (by omega) hj' fun g hg => ?_
  rw [Int.toNat_natCast]
  refine tab_st rbF_len (y' := (h, { bb with cn := bb.cn - 1 })) hh.p1 hg hj (by decide) rfl fun w2 h3 => ?_
  have h4 := h3.p1
  obtain ⟨L', hL'⟩ : ∃ L', L' = L.set j (h, { bb with cn := bb.cn - 1 }) := ⟨_, rfl⟩
  have hj2 : L'[(j : Int).toNat]? = some (h, { bb with cn := bb.cn - 1 }) := by rw [Int.toNat_natCast, hL']; simp [hlt]
  rw [← hL'] at h4
  refine nn_ok <| ldS_ok (h4.left.cell (i := 1) rfl) <| tab_idx rbF_len h4.right.left (by decide) (by omega) hj2 fun g hg => ldI_ok (tab_cell rbF_len (j := 3) h4.right.left hg hj2 (by decide) rfl) <| br_split (fun h0 => ?_) (fun h0 => ?_)
  · have h1c : bb.cn = 1 := by
      have : bb.cn - 1 = 0 := by simpa using h0
      omega
    have h5 := h4.drew
    refine nn_ok <| ldP_ok (h5.left.cell (i := 0) rfl) <| nn_ok <| ldP_ok (h5.left.cell (i := 0) rfl) <| nn_ok <| ldS_ok (h5.left.cell (i := 1) rfl) <| tab_idx rbF_len h5.right.left (by decide) (by omega) hj2 fun g hg => ldI_ok (tab_cell rbF_len (j := 0) h5.right.left hg hj2 (by decide) rfl) ?_
    have h6 := h5.perm (B := RAr r (z0 s) * (blk b (rtA p r L.length c) T_tenonref12_Table * (tab T_tenonref12_Block 4 rbF p L.length c L' * F))) (by ac_rfl)
    refine call_mono (ref_At_ok (h := h) h6 hs.ok.mapA) ?_
    rw [find_mapA hs.ok, q.fnd hs.ok]
    rintro _ w9 ⟨rfl, rfl⟩
    have hym : (z0 s).sp[i]? = some ⟨0, y.g, y.st⟩ := by rw [mapA_get, q.get]; rfl
    refine asI_ok ⟨h6.right.left.cell (i := 0) rfl, call_mono (ref_Drop_ok h6 hs.ok.mapA hym) ?_⟩
    have ed : dropS (0 : Int) (z0 s) i = z0 (dropS none s i) := dropS_mapA (f := fun _ : WP => (0 : Int)) none i
    rw [ed]
    rintro _ w10 ⟨rfl, h10⟩
    have h7 := h10.perm (B := tab T_tenonref12_Block 4 rbF p L.length c L' * (blk b (rtA p r L.length c) T_tenonref12_Table * (RAr r (z0 (dropS none s i)) * F))) (by ac_rfl)
    have hl' : L'.length = L.length := by rw [hL', List.length_set]
    have et : L'.take j = L.take j := by rw [hL', List.take_set, List.set_eq_of_length_le (by rw [List.length_take]; omega)]
    have edr : L'.drop (j + 1) = L.drop (j + 1) := by rw [hL', List.drop_set, if_pos (by omega)]
    refine ⟨rfl, nn_ok <| ldS_ok (h7.right.left.cell (i := 1) rfl) <| slc_own (h7 : Sat w₀ (own T_tenonref12_Block 4 p L.length c (L'.flatMap rbF) * _) w10) (by omega) (by omega) ?_⟩
    rw [Int.toNat_natCast]
    have hR1 := tab_front rbF_len (by decide) h7.left (j := j) (by omega)
    rw [et] at hR1
    refine tab_more (ys := []) (zs := L.take j) (m := j) (l := 0) rbsTy rbF_len rbF_one (tab_nil T_tenonref12_Block 4 rbF h7) hR1 (by simp only [maxLen]; omega) (by omega) fun p' c' w6 h8 => ?_
    rw [Nat.zero_add, List.nil_append] at h8
    rw [Nat.zero_add]
    have hcap := (h8.right.left : Sat w₀ (own T_tenonref12_Block 4 p L.length c (L'.flatMap rbF)) w6).own_cap
    refine nn_ok <| ldS_ok (h8.right.right.left.cell (i := 1) rfl) <| arith_i64 (by omega) (by omega) <| slc_ok (by omega) (by omega) (by omega) ?_
    have e1 : ((j : Int) + 1).toNat = j + 1 := by omega
    rw [e1, Int.toNat_natCast]
    have hR2 := tab_back rbF_len (by decide) h8.right.left (j := j + 1) (by omega)
    rw [edr] at hR2
    refine tab_more (ys := L.take j) (zs := L.drop (j + 1)) (m := L.length - (j + 1)) (l := j) rbsTy rbF_len rbF_one h8 hR2 (by simp only [maxLen]; omega) (by omega) fun p'' c'' w7 h9 => ?_
    have h9 := h9.perm (B := blk b (rtA p r L.length c) T_tenonref12_Table * (tab T_tenonref12_Block 4 rbF p'' (j + (L.length - (j + 1))) c'' (L.take j ++ L.drop (j + 1)) * (RAr r (z0 (dropS none s i)) * (F * tab T_tenonref12_Block 4 rbF p L.length c L')))) (by ac_rfl)
    refine nn_ok <| st_ok (i := 1) h9 (by simp [rtA]) fun w8 h10 => ⟨rfl, fun _ => ?_, fun hne => absurd h1c hne⟩
    have h11 := RT.shut (b := b) (r := r) (p := p'') (c := c'') (l := j + (L.length - (j + 1))) (hr.drop hs q hj) (h10.perm (B := blk b (rtA p'' r (j + (L.length - (j + 1))) c'') T_tenonref12_Table * (tab T_tenonref12_Block 4 rbF p'' (j + (L.length - (j + 1))) c'' (L.take j ++ L.drop (j + 1)) * (RAr r (z0 (dropS none s i)) * (F * tab T_tenonref12_Block 4 rbF p L.length c L')))) rfl)
    exact (h11.perm (B := tab T_tenonref12_Block 4 rbF p L.length c L' * (RT b r (dropS none s i) * F)) (by ac_rfl)).right
  · have h1c : bb.cn ≠ 1 := by
      have : ¬ bb.cn - 1 = 0 := by simpa using h0
      omega
    refine ⟨rfl, fun e => absurd e h1c, fun _ => ?_⟩
    refine RT.shut (p := p) (c := c) (l := L.length) (hr.setX hs q hj _) ?_
    rw [z0_setX q, ← hL']
    exact h4
end
end Go.Proofs.Ytiogdefiokmmkaa
