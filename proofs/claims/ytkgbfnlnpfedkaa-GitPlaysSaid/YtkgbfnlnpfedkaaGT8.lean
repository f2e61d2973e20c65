/- GitPlays, GitTells: the walks, continued. No conditions. -/
import Derived.Test.YtkgbfnlnpfedkaaGT7
set_option linter.unusedVariables false
set_option linter.unusedSimpArgs false
set_option maxRecDepth 100000
namespace Go.Proofs.Ytkgbfnlnpfedkaa
open Go.Sp Go.RowKit

theorem git_hit {w₀ : World} {tb a : Nat} {s : AS GE} (hs : AOk s) : ∀ k t Pre, (∀ w, Sat w₀ Pre w → Sat w₀ (blk k #[.pointer (some ⟨tb, 0, none⟩)] t) w) → (∀ w, Sat w₀ Pre w → Sat w₀ (Gt tb a s) w) →
    IterC Try.prog w₀ fn_git_Table_All_1 #[.pointer (some ⟨k, 0, none⟩)] Pre (((liveFrom 0 s.sp).map pairO).map encO) := by
  intro k t Pre hP hQ
  rw [List.map_map]
  exact gAll_iter hs hP hQ
theorem firstIs_pos {s : AS GE} (hs : AOk s) {x : OR} : (firstIs x ((liveFrom 0 s.sp).map pairO)).2 = ((firstIs x ((liveFrom 0 s.sp).map pairO)).1 != 0) := by
  unfold firstIs
  cases hf : ((liveFrom 0 s.sp).map pairO).find? (fun p => decide (p.2 = x)) with
  | none => rfl
  | some p =>
    obtain ⟨q, hq, rfl⟩ := List.mem_map.1 (List.mem_of_find?_eq_some hf)
    have hl : Liv s (hd q.1 q.2.g) q.2.x := live_liv.2 ⟨q, hq, rfl, rfl⟩
    have := hl.range hs
    have hne : (pairO q).1 ≠ 0 := by show hd q.1 q.2.g ≠ 0; omega
    simp [hne]
theorem GitPlays_walk {W : World} {p : Option Addr} {l c : Nat} {xs : List GAct} {most : Int} (hx : Acts W p l xs) (hl : l ≤ 9223372036854775807) :
    call Try.prog fn_tenonlaw19_GitPlays #[.int .i64 most, .slice p l c] W fun v w' => v = .bool true ∧ Below W.heap.size W w' := by
  apply tenonlaw19_GitPlays_call
  unfold tenonlaw19_GitPlays
  have done : ∀ {w F}, Sat W (F * old W) w → call Try.prog fn_tenonlaw19_awake #[] w fun v w' => asB v fun b => (Value.bool b) = .bool true ∧ Below W.heap.size W w' := by
    intro w F h
    refine call_mono (tenonlaw19_awake_ok h) ?_
    rintro _ w2 ⟨rfl, h2⟩
    exact asB_ok ⟨rfl, h2.right.below'⟩
  by_cases hbad : most < 1 ∨ most > 65536
  · refine call_mono (git_New_no (w := W) hbad) ?_
    rintro _ w1 ⟨rfl, rfl⟩
    exact ⟨_, _, rfl, call_pure (rt_New_no (w := w1) hbad) <| asP_ok <| br_true rfl <| br_true rfl <| br_true rfl <| done (F := emp) (Sat.start _).with_emp⟩
  · refine call_mono (git_New_ok (Sat.start W) (by omega) (by omega)) ?_
    rintro _ w1 ⟨tb, a, rfl, h1⟩
    refine ⟨_, _, rfl, call_mono (rt_New_ok h1 (by omega) (by omega)) ?_⟩
    rintro _ w2 ⟨rb0, r0, rfl, h2⟩
    refine asP_ok <| br_false rfl <| call_mono (rt_New_ok h2.right (by omega) (by omega)) ?_
    rintro _ w4 ⟨rb, r, rfl, h4⟩
    have k1 : AOk (⟨most, 1, [], [], 0⟩ : AS GE) := AOk.start (by omega) (by omega) (by decide) (by decide)
    refine asP_ok <| new_ok h4 fun b w5 h5 => ?_
    have h5 : Sat W (Pr b tb a rb r ⟨most, 1, [], [], 0⟩ [] * old W) w5 := Pr.shut (l := 0) (p := none) (c := 0) ((tab_nil T_uint64 1 fU64 h5).perm (by ac_rfl))
    refine ⟨fun i w n => ∃ (s : AS GE) (gs : List Int), 0 ≤ i ∧ i ≤ 150 ∧ n = 150 - i.toNat ∧ gs.length ≤ i ∧ AOk s ∧ (∀ g ∈ gs, 0 ≤ g ∧ g ≤ 18446744073709551615) ∧ Sat W (Pr b tb a rb r s gs * old W) w, ⟨_, _, [], by omega, by omega, rfl, by simp, k1, by simp, h5⟩, ?_⟩
    rintro u i w6 n ⟨s, gs, h0, hi, rfl, hgl, hs, hgs, h6⟩
    refine br_dec (fun hlt => br_dec (fun hlt2 => ?_) (fun _ => br_true rfl <| done h6)) (fun _ => br_true rfl <| done h6)
    refine hx.idx h6.right h0 hlt fun a0 x hxa ha => ha.ld <| call_mono (Pair_do_ok h6 hs hgs (by omega) ha.toActIn) ?_
    rintro _ w7 ⟨rfl, s', gs', hs', hm', hgs', hgl', h7⟩
    refine asB_ok <| br_false rfl <| hx.idx' h7.right h0 hlt hxa fun a1 ha1 => ha1.ldx ?_
    obtain ⟨p7, c7, h8⟩ := Pr.open_ h7
    refine call_mono (git_Find_ok (x := x.x) (git_hit hs') (h8.perm (B := Gt tb a s' * (blk b #[.pointer (some ⟨tb, 0, none⟩), .pointer (some ⟨rb, 0, none⟩), .slice p7 gs'.length c7] T_tenonlaw19_Pair * (tab T_uint64 1 fU64 p7 gs'.length c7 gs' * (RT rb r s' * old W)))) (by ac_rfl))) ?_
    rintro _ w8 ⟨rfl, h9⟩
    have h9 := (h9.drew).perm (B := RT rb r s' * (blk b #[.pointer (some ⟨tb, 0, none⟩), .pointer (some ⟨rb, 0, none⟩), .slice p7 gs'.length c7] T_tenonlaw19_Pair * (tab T_uint64 1 fU64 p7 gs'.length c7 gs' * (Gt tb a s' * old W)))) (by ac_rfl)
    refine ⟨_, _, rfl, ldP_ok (cell_blk h9.right (i := 1) rfl) <| hx.idx' h9.right.right.right.right h0 hlt hxa fun a2 ha2 => ha2.ldx <| call_mono (rt_Find_ok (x := x.x) h9 hs') ?_⟩
    rintro _ w9 ⟨rfl, h10⟩
    refine asI_ok <| br_false (by simp) <| br_false (by rw [firstIs_pos hs']; simp) <| arith_i64 (by omega) (by omega) ⟨_, by omega, s', gs', by omega, by omega, rfl, by omega, hs', hgs', Pr.shut (p := p7) (l := gs'.length) (c := c7) (h10.perm (by ac_rfl))⟩
theorem GitPlays_row {W : World} {v : Value} {most : Int} (hm : IntKind.i64.min ≤ most ∧ most ≤ IntKind.i64.max) (h : ∃ p l c xs, v = .slice p l c ∧ l ≤ 9223372036854775807 ∧ Acts W p l xs) :
    call Try.prog fn_tenonlaw19_GitPlays #[.int .i64 most, v] W fun v w' => v = .bool true ∧ Below W.heap.size W w' := by
  obtain ⟨p, l, c, xs, rfl, hl, hx⟩ := h
  exact GitPlays_walk hx hl

theorem GitTells_walk {W : World} {p : Option Addr} {l c : Nat} {xs : List GAct} {stop : Int} (hx : Acts W p l xs) (hl : l ≤ 9223372036854775807) (hst : -9223372036854775808 ≤ stop ∧ stop ≤ 9223372036854775807) :
    call Try.prog fn_tenonlaw19_GitTells #[.slice p l c, .int .i64 stop] W fun v w' => v = .bool true ∧ Below W.heap.size W w' := by
  apply tenonlaw19_GitTells_call
  unfold tenonlaw19_GitTells
  refine call_mono (git_New_ok (most := 20) (Sat.start W) (by decide) (by decide)) ?_
  rintro _ w1 ⟨tb, a, rfl, h1⟩
  refine ⟨_, _, rfl, call_mono (rt_New_ok (most := 20) h1 (by decide) (by decide)) ?_⟩
  rintro _ w2 ⟨rb, r, rfl, h2⟩
  have k1 : AOk (⟨20, 1, [], [], 0⟩ : AS GE) := AOk.start (by decide) (by decide) (by decide) (by decide)
  refine asP_ok <| new_ok h2 fun b w3 h3 => ?_
  have h3 : Sat W (Pr b tb a rb r ⟨20, 1, [], [], 0⟩ [] * old W) w3 := Pr.shut (l := 0) (p := none) (c := 0) ((tab_nil T_uint64 1 fU64 h3).perm (by ac_rfl))
  refine ⟨fun w => ∃ s gs, AOk s ∧ s.most ≤ 20 ∧ Sat W (Pr b tb a rb r s gs * old W) w, ?_, ?_⟩
  · refine ⟨fun i w n => ∃ (s : AS GE) (gs : List Int), 0 ≤ i ∧ i ≤ 80 ∧ n = 80 - i.toNat ∧ gs.length ≤ i ∧ AOk s ∧ s.most ≤ 20 ∧ (∀ g ∈ gs, 0 ≤ g ∧ g ≤ 18446744073709551615) ∧ Sat W (Pr b tb a rb r s gs * old W) w, ⟨_, _, [], by omega, by omega, rfl, by simp, k1, by show (20 : Int) ≤ 20; omega, by simp, h3⟩, ?_⟩
    rintro u i w6 n ⟨s, gs, h0, hi, rfl, hgl, hs, hsm, hgs, h6⟩
    refine br_dec (fun hlt => br_dec (fun hlt2 => ?_) (fun _ => ⟨s, gs, hs, hsm, h6⟩)) (fun _ => ⟨s, gs, hs, hsm, h6⟩)
    refine hx.idx h6.right h0 hlt fun a0 x hxa ha => ha.ld <| call_mono (Pair_do_ok h6 hs hgs (by omega) ha.toActIn) ?_
    rintro _ w7 ⟨rfl, s', gs', hs', hm', hgs', hgl', h7⟩
    exact asB_ok <| arith_i64 (by omega) (by omega) ⟨_, by omega, s', gs', by omega, by omega, rfl, by omega, hs', by omega, hgs', h7⟩
  rintro u w6 ⟨s, gs, hs, hsm, h6⟩
  obtain ⟨hll, _⟩ := live_len hs
  have hcnt : s.cnt ≤ 20 := by
    have := hs.bound
    have := hs.len
    omega
  obtain ⟨pg, cg, h6⟩ := Pr.open_ h6
  obtain ⟨L, pL, cL, hrel, h6⟩ := RT.open_ (h6.perm (B := RT rb r s * (blk b #[.pointer (some ⟨tb, 0, none⟩), .pointer (some ⟨rb, 0, none⟩), .slice pg gs.length cg] T_tenonlaw19_Pair * (Gt tb a s * (tab T_uint64 1 fU64 pg gs.length cg gs * old W)))) (by ac_rfl))
  have hsm2 := hrel.small hs
  refine ldP_ok (cell_blk h6.right.right.right (i := 1) rfl) <| nn_ok <| ldP_ok (h6.left.cell (i := 0) rfl) <| call_mono (rt_All_ok (h6.perm (B := RAr r (mapA (fun _ => (0 : Int)) s) * (blk rb #[.pointer (some ⟨r, 0, none⟩), .slice pL L.length cL] T_tenonref19_Table * (tab T_tenonref19_Entry 38 entF pL L.length cL L * (blk b #[.pointer (some ⟨tb, 0, none⟩), .pointer (some ⟨rb, 0, none⟩), .slice pg gs.length cg] T_tenonlaw19_Pair * (Gt tb a s * (tab T_uint64 1 fU64 pg gs.length cg gs * old W)))))) (by ac_rfl)) hs) ?_
  rintro _ w7 ⟨pw, lw, cw, rfl, rfl, h7⟩
  obtain ⟨ps, hps⟩ : ∃ ps, ps = (liveFrom 0 s.sp).map pairO := ⟨_, rfl⟩
  have hpl : ps.length = s.cnt := by rw [hps, List.length_map, hll]
  have hfst : ps.map Prod.fst = allFrom 0 s.sp := by rw [hps, allFrom_live, List.map_map]; rfl
  have hit := git_hit (w₀ := W) (tb := tb) (a := a) hs
  rw [← hps] at hit
  have hfl : (allFrom 0 s.sp).length = s.cnt := by rw [← hfst, List.length_map, hpl]
  refine asS_ok <| call_mono (told_ok (most := 99) (by omega) hit (h7.perm (B := Gt tb a s * (tab T_uint64 1 fU64 pw s.cnt cw (allFrom 0 s.sp) * (RAr r (mapA (fun _ => (0 : Int)) s) * (blk rb #[.pointer (some ⟨r, 0, none⟩), .slice pL L.length cL] T_tenonref19_Table * (tab T_tenonref19_Entry 38 entF pL L.length cL L * (blk b #[.pointer (some ⟨tb, 0, none⟩), .pointer (some ⟨rb, 0, none⟩), .slice pg gs.length cg] T_tenonlaw19_Pair * (tab T_uint64 1 fU64 pg gs.length cg gs * old W))))))) (by ac_rfl))) ?_
  rintro _ w8 ⟨p1, m, c1, q1, d1, rfl, hm1, h8⟩
  have hm1 : m = s.cnt := by rw [hm1, hpl]; simp; omega
  subst hm1
  have etk : ps.take s.cnt = ps := List.take_of_length_le (by omega)
  rw [etk, hfst] at h8
  obtain ⟨k, hp, hk0, hk1, _⟩ := tenonref01_Pick_ok stop ((s.cnt : Int) + 1) hst.1 hst.2 (by omega) (by omega)
  have hk1 := hk1 (by omega)
  refine ⟨_, _, _, _, _, _, rfl, arith_i64 (by omega) (by omega) <| call_pure hp <| asI_ok <| call_mono (told_ok (most := k) (by omega) hit (h8.perm (B := Gt tb a s * (tab T_uint64 1 fU64 p1 s.cnt c1 (allFrom 0 s.sp) * (tab T_api_Objref 36 orC q1 s.cnt d1 (ps.map Prod.snd) * (tab T_uint64 1 fU64 pw s.cnt cw (allFrom 0 s.sp) * (RAr r (mapA (fun _ => (0 : Int)) s) * (blk rb #[.pointer (some ⟨r, 0, none⟩), .slice pL L.length cL] T_tenonref19_Table * (tab T_tenonref19_Entry 38 entF pL L.length cL L * (blk b #[.pointer (some ⟨tb, 0, none⟩), .pointer (some ⟨rb, 0, none⟩), .slice pg gs.length cg] T_tenonlaw19_Pair * (tab T_uint64 1 fU64 pg gs.length cg gs * old W))))))))) (by ac_rfl))) ?_⟩
  rintro _ w10 ⟨p2, m, c2, q2, d2, rfl, hm2, h10⟩
  have hm2 : m = k.toNat := by rw [hm2, hpl]; omega
  subst hm2
  have e1 : (ps.take k.toNat).map Prod.fst = (allFrom 0 s.sp).take k.toNat := by rw [List.map_take, hfst]
  rw [e1] at h10
  have h10 := h10.perm (B := tab T_uint64 1 fU64 pw s.cnt cw (allFrom 0 s.sp) * (tab T_uint64 1 fU64 p1 s.cnt c1 (allFrom 0 s.sp) * (tab T_uint64 1 fU64 p2 k.toNat c2 ((allFrom 0 s.sp).take k.toNat) * (tab T_api_Objref 36 orC q1 s.cnt d1 (ps.map Prod.snd) * (blk rb #[.pointer (some ⟨r, 0, none⟩), .slice pL L.length cL] T_tenonref19_Table * (tab T_tenonref19_Entry 38 entF pL L.length cL L * (blk b #[.pointer (some ⟨tb, 0, none⟩), .pointer (some ⟨rb, 0, none⟩), .slice pg gs.length cg] T_tenonlaw19_Pair * (old W * (tab T_api_Objref 36 orC q2 k.toNat d2 ((ps.take k.toNat).map Prod.snd) * (Gt tb a s * (RAr r (mapA (fun _ => (0 : Int)) s) * tab T_uint64 1 fU64 pg gs.length cg gs))))))))))) (by ac_rfl)
  refine ⟨_, _, _, _, _, _, rfl, call_reads (SameLongs_ok (xs := allFrom 0 s.sp) (ys := allFrom 0 s.sp) (Sat.rd (t := T_uint64) (c := c1) h10.right.left) (Sat.rd (t := T_uint64) (c := cw) h10.left) (by omega)) fun w11 hw11 => asB_ok <| br_false (by simp) ?_⟩
  have h11 := h10.same hw11
  refine slc_own (h11 : Sat W (own T_uint64 1 pw s.cnt cw ((allFrom 0 s.sp).flatMap fU64) * _) w11) hk0 (by omega) ?_
  have h12 := tab_cut fU64_len h11 (show k.toNat ≤ s.cnt by omega)
  refine call_reads (SameLongs_ok (xs := (allFrom 0 s.sp).take k.toNat) (ys := (allFrom 0 s.sp).take k.toNat) (Sat.rd (t := T_uint64) (c := c2) h12.right.right.left) (Sat.rd (t := T_uint64) (c := cw) h12.left) (by omega)) fun w12 hw12 => asB_ok <| br_false (by simp) ?_
  have h13 := (h12.same hw12).right
  refine ⟨fun i w n => 0 ≤ i ∧ i ≤ s.cnt ∧ n = s.cnt - i.toNat ∧ Sat W _ w, ⟨_, by omega, by omega, rfl, h13⟩, ?_⟩
  rintro u i w13 n ⟨h0, hi, rfl, h14⟩
  refine br_dec (fun hlt => ?_) (fun hge => ?_)
  · obtain ⟨y, hy, ha, hsy, hs1⟩ := all_get (s := s) (i := i.toNat) (by omega)
    have h15 := h14.drew
    have hsn : (ps.map Prod.snd)[i.toNat]? = some y.2.x.2 := by rw [hps, List.map_map, List.getElem?_map, hy]; rfl
    have hb := h15.right.right.right.right.right
    refine tab_idx orC_len h15.right.right.left (by decide) h0 hsn fun g hg => tab_ldA0 orC_len h15.right.right.left hg hsn ?_
    rw [orC_arr]
    refine ldP_ok (cell_blk hb (i := 1) rfl) <| nn_ok <| ldS_ok (h15.right.right.right.left.cell (i := 1) rfl) <| ldP_ok (cell_blk hb (i := 1) rfl) <| tab_idx fU64_len h15.left (by decide) h0 ha fun g3 hg3 => ldI_ok (tab_cell fU64_len (j := 0) h15.left hg3 ha (by decide) rfl) <| call_mono (rt_At_ok h15.right.right.right hsm2) ?_
    rintro _ w14 ⟨rfl, rfl⟩
    have hfj : find s (hd y.1 y.2.g) = some y.1 := (find_iff hs).2 ⟨y.2, hsy, hs1, rfl⟩
    rcases atI_cases hs hrel (hd y.1 y.2.g) with ⟨hf, _⟩ | ⟨i', y', j, hf, hy', hy1, hhd, hat, hj⟩
    · rw [hfj] at hf; cases hf
    · have e4 : i' = y.1 := by rw [hfj] at hf; exact (Option.some.inj hf).symm
      subst e4
      rw [hsy] at hy'
      cases hy'
      rw [hat]
      have hj' : L[(j : Int).toNat]? = some (hd y.1 y.2.g, y.2.x) := by rw [Int.toNat_natCast]; exact hj
      have kp : ∀ {X : Prop}, X → keepS (cellsOf (⟨g, i.toNat * 36, none⟩ : Addr) (orF y.2.x.2.1)) w13.drew X := by
        intro X hX
        have h24 : ∀ q ∈ cellsOf (⟨g, i.toNat * 36, none⟩ : Addr) (orF y.2.x.2.1), w13.drew.cell? q.1 = some q.2 := by
          refine mem_cellsOf.2 fun j hj => ?_
          rw [orF_sz] at hj
          have e : (orC y.2.x.2)[j]? = some ((orC y.2.x.2)[j]'(by rw [orC_len]; exact hj)) := by simp [orC_len, hj]
          rw [tab_cell orC_len h15.right.right.left hg hsn hj e, ← orC_arr, List.getElem?_toArray, e]
        revert h24
        generalize cellsOf (⟨g, i.toNat * 36, none⟩ : Addr) (orF y.2.x.2.1) = S
        intro h1
        induction S with
        | nil => exact hX
        | cons q S ih => exact ⟨h1 q (.head _), ih fun r hr => h1 r (.tail _ hr)⟩
      refine asI_ok ⟨h15.right.right.right.left.cell (i := 1) rfl, cell_blk hb (i := 1) rfl, kp <| tab_idx entF_len h15.right.right.right.right.left (by decide) (by omega) hj' fun g2 hg2 => tab_ldA entF_len (o := 2) (n := 36) h15.right.right.right.right.left hg2 hj' (by decide) (entF_or _) ?_⟩
      rw [orC_arr]
      exact or_eq (x := y.2.x.2) (y := y.2.x.2) <| br_false (by simp) <| arith_i64 (by omega) (by omega) ⟨_, by omega, by omega, by omega, rfl, h15⟩
  · refine call_mono (tenonlaw19_awake_ok h14) ?_
    rintro _ w2 ⟨rfl, h2⟩
    exact asB_ok ⟨rfl, h2.right.right.right.right.right.right.left.below'⟩
theorem GitTells_row {W : World} {v : Value} {stop : Int} (h : ∃ p l c xs, v = .slice p l c ∧ l ≤ 9223372036854775807 ∧ Acts W p l xs) (hs : IntKind.i64.min ≤ stop ∧ stop ≤ IntKind.i64.max) :
    call Try.prog fn_tenonlaw19_GitTells #[v, .int .i64 stop] W fun v w' => v = .bool true ∧ Below W.heap.size W w' := by
  simp [IntKind.min, IntKind.max, IntKind.signed, IntKind.bits] at hs
  obtain ⟨p, l, c, xs, rfl, hl, hx⟩ := h
  exact GitTells_walk hx hl hs
end Go.Proofs.Ytkgbfnlnpfedkaa
