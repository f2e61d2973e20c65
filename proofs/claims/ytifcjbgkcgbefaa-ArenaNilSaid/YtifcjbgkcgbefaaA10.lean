/- ArenaAll, ArenaNil: the walks, continued. No conditions. -/
import Derived.Test.YtifcjbgkcgbefaaA9
set_option linter.unusedVariables false
set_option linter.unusedSimpArgs false
namespace Go.Proofs.Ytifcjbgkcgbefaa
open Go.Sp Go.RowKit

theorem flatU64 (xs : List Int) : xs.flatMap fU64 = xs.map fun x => Value.int .u64 x := by
  induction xs with
  | nil => rfl
  | cons x xs ih => simp [fU64, ih]
theorem SameLongs_ok {w : World} {p q : Option Addr} {l c m d : Nat} {xs ys : List Int} (hx : Rd w 1 p l (xs.flatMap fU64)) (hy : Rd w 1 q m (ys.flatMap fU64)) (hl : l ≤ 4611686018427387904) :
    Reads Try.prog fn_tenonref01_SameLongs #[.slice p l c, .slice q m d] w (.bool (decide (xs = ys))) := by
  apply tenonref01_SameLongs_call
  unfold tenonref01_SameLongs
  have el : xs.length = l := by have := hx.1; rw [flatU64, List.length_map] at this; omega
  have em : ys.length = m := by have := hy.1; rw [flatU64, List.length_map] at this; omega
  refine br_split (fun hne => ?_) (fun heq => ?_)
  · refine ⟨?_, Same.refl w⟩
    rw [decide_eq_false]
    intro e
    subst e
    simp [← el, em] at hne
  · have hlm' : (l : Int) = m := by simpa using heq
    have hlm : l = m := by omega
    refine ⟨fun n w' k => 0 ≤ n ∧ n ≤ l ∧ k = l - n.toNat ∧ xs.take n.toNat = ys.take n.toNat ∧ Same w w', ⟨_, by omega, by omega, rfl, by simp, Same.refl w⟩, ?_⟩
    rintro u n w1 k ⟨h0, h1, rfl, he, hw⟩
    refine br_dec (fun hlt => ?_) (fun hge => ?_)
    · have hi : n.toNat < xs.length := by omega
      have hj : n.toNat < ys.length := by omega
      have hxi : (xs.flatMap fU64)[n.toNat]? = some (.int .u64 xs[n.toNat]) := by rw [flatU64]; simp [hi]
      have hyi : (ys.flatMap fU64)[n.toNat]? = some (.int .u64 ys[n.toNat]) := by rw [flatU64]; simp [hj]
      refine idx_ok hx h0 (by omega) fun a ha => ldI_ok (n := xs[n.toNat]) ?_ <| idx_ok hy h0 (by omega) fun b hb => ldI_ok (n := ys[n.toNat]) ?_ <| br_split (fun hne => ?_) (fun heq => ?_)
      · rw [hw.drew.cell, Nat.mul_one]; exact hx.get ha hxi
      · rw [hw.drew.cell, Nat.mul_one]; exact hy.get hb hyi
      · refine ⟨?_, hw.drew⟩
        rw [decide_eq_false]
        intro e
        subst e
        simp at hne
      · have heq : xs[n.toNat] = ys[n.toNat] := by simpa using heq
        refine arith_i64 (by omega) (by omega) ⟨_, by omega, by omega, by omega, rfl, ?_, hw.drew⟩
        rw [show (n + 1).toNat = n.toNat + 1 by omega, List.take_add_one, List.take_add_one, he]
        simp [hi, hj, heq]
    · refine ⟨?_, hw⟩
      rw [List.take_of_length_le (by omega), List.take_of_length_le (by omega)] at he
      rw [he]
      simp

theorem ArenaNil_row {W : World} {h x : Int} (hh : IntKind.u64.min ≤ h ∧ h ≤ IntKind.u64.max) (hx : IntKind.i64.min ≤ x ∧ x ≤ IntKind.i64.max) :
    call Try.prog fn_tenonlaw02_ArenaNil #[.int .u64 h, .int .i64 x] W fun v w' => v = .bool true ∧ Below W.heap.size W w' := by
  simp [IntKind.min, IntKind.max, IntKind.signed, IntKind.bits] at hh hx
  have find : PureCall Try.prog fn_arena_Arena_find #[.pointer none, .int .u64 h] (.tuple #[.pointer none, .int .i64 0]) := by
    intro w
    apply arena_Arena_find_call
    unfold arena_Arena_find
    exact call_pure (arena_Split_ok hh.1 hh.2) ⟨_, _, rfl, br_true rfl ⟨rfl, rfl⟩⟩
  have get : PureCall Try.prog fn_arena_Arena_Get #[.pointer none, .int .u64 h] (.tuple #[.int .i64 0, .int .i64 2]) := by
    intro w
    apply arena_Arena_Get_call
    unfold arena_Arena_Get
    exact call_pure find ⟨_, _, rfl, br_true rfl ⟨rfl, rfl⟩⟩
  have drop : PureCall Try.prog fn_arena_Arena_Drop #[.pointer none, .int .u64 h] (.tuple #[.int .i64 0, .int .i64 2]) := by
    intro w
    apply arena_Arena_Drop_call
    unfold arena_Arena_Drop
    exact call_pure find ⟨_, _, rfl, br_true rfl ⟨rfl, rfl⟩⟩
  have set_ : PureCall Try.prog fn_arena_Arena_Set #[.pointer none, .int .u64 h, .int .i64 x] (.int .i64 2) := by
    intro w
    apply arena_Arena_Set_call
    unfold arena_Arena_Set
    exact call_pure find ⟨_, _, rfl, br_true rfl ⟨rfl, rfl⟩⟩
  have len : PureCall Try.prog fn_arena_Arena_Len #[.pointer none] (.int .i64 0) := by
    intro w
    apply arena_Arena_Len_call
    unfold arena_Arena_Len
    exact br_true rfl ⟨rfl, rfl⟩
  have put_ : PureCall Try.prog fn_arena_Arena_Put #[.pointer none, .int .i64 x] (.tuple #[.int .u64 0, .int .i64 3]) := by
    intro w
    apply arena_Arena_Put_call
    unfold arena_Arena_Put
    exact br_true rfl ⟨rfl, rfl⟩
  apply tenonlaw02_ArenaNil_call
  unfold tenonlaw02_ArenaNil
  refine call_pure put_ ⟨_, _, rfl, call_pure get ⟨_, _, rfl, call_pure drop ⟨_, _, rfl, ?_⟩⟩⟩
  refine call_mono (handles_ok (x0 := none) (ps := []) (Q := emp) (by decide) (fun k t Pre hP => All_nil fun w₀ w h => (hP w₀ w h).left) (Sat.start W).with_emp) ?_
  rintro _ w4 ⟨p, m, c, q, d, rfl, rfl, h4⟩
  refine ⟨_, _, _, _, _, _, rfl, ?_⟩
  refine br_true rfl <| br_true rfl <| br_true rfl <| br_true rfl <| br_true rfl <| br_true rfl <| call_pure set_ <| asI_ok <| br_true rfl <| call_pure len <| asI_ok <| br_true rfl <| br_true (by simp) <| call_mono (tenonlaw02_awake_ok h4.right.right.right) ?_
  rintro _ w2 ⟨rfl, h2⟩
  exact asB_ok ⟨rfl, h2.below'⟩

theorem ArenaAll_walk {W : World} {p : Option Addr} {l c : Nat} {xs : List ActD} {most stop : Int} (hm : -9223372036854775808 ≤ most ∧ most ≤ 9223372036854775807) (hx : Acts W p l xs) (hl : l ≤ 9223372036854775807) (hst : -9223372036854775808 ≤ stop ∧ stop ≤ 9223372036854775807) :
    call Try.prog fn_tenonlaw02_ArenaAll #[.int .i64 most, .slice p l c, .int .i64 stop] W fun v w' => v = .bool true ∧ Below W.heap.size W w' := by
  apply tenonlaw02_ArenaAll_call
  unfold tenonlaw02_ArenaAll
  obtain ⟨k, hp, hk0, hk1, _⟩ := tenonref01_Pick_ok most 40 hm.1 hm.2 (by omega) (by omega)
  have hk1 := hk1 (by omega)
  refine call_pure hp <| asI_ok <| arith_i64 (by omega) (by omega) <| call_mono (begun_ok (Sat.start W) (by omega) (by omega) (by omega)) ?_
  rintro _ w2 ⟨b, rfl, h2⟩
  have k1 := AOk.start (most := 1 + k) (first := 1) (by omega) (by omega) (by decide) (by decide)
  refine asP_ok <| br_false rfl ⟨fun w => ∃ s gs, AOk s ∧ s.most ≤ 40 ∧ Sat W (Pr b s gs * old W) w, ?_, ?_⟩
  · refine ⟨fun i w n => ∃ (s : AS) (gs : List Int), 0 ≤ i ∧ i ≤ 200 ∧ n = 200 - i.toNat ∧ gs.length ≤ i ∧ (AOk s ∧ s.most ≤ 40) ∧ (∀ g ∈ gs, 0 ≤ g ∧ g ≤ 18446744073709551615) ∧ Sat W (Pr b s gs * old W) w, ⟨_, _, [], by omega, by omega, rfl, by simp, ⟨k1, by show 1 + k ≤ 40; omega⟩, by simp, h2⟩, ?_⟩
    rintro u i w4 n ⟨s, gs, h0, hi, rfl, hgl, ⟨hs, hsm⟩, hgs, h4⟩
    refine br_dec (fun hlt => br_dec (fun hlt2 => ?_) (fun _ => ⟨s, gs, hs, hsm, h4⟩)) (fun _ => ⟨s, gs, hs, hsm, h4⟩)
    refine hx.idx h4.right h0 hlt fun a0 x hxa ha => ha.ld <| call_mono (Pair_do_ok h4 hs hgs (by omega) ha.k0 ha.k1 ha.k3) ?_
    rintro _ w5 ⟨rfl, s', gs', ⟨hs', hm'⟩, hgs', hgl', h5⟩
    exact asB_ok <| arith_i64 (by omega) (by omega) ⟨_, by omega, s', gs', by omega, by omega, rfl, by omega, ⟨hs', by omega⟩, hgs', h5⟩
  rintro u w5 ⟨s, gs, hs, hsm, h5⟩
  have hlen := hs.len
  obtain ⟨a, r, pg, cg, h5⟩ := Pr.open_ h5
  have hcnt : s.cnt ≤ 40 := by have := hs.bound; omega
  refine nn_ok <| ldP_ok (h5.left.cell (i := 1) rfl) <| call_mono (ref_All_ok (h5.perm (B := RAr r s * (blk b #[.pointer (some ⟨a, 0, none⟩), .pointer (some ⟨r, 0, none⟩), .slice pg gs.length cg] T_tenonlaw02_Pair * (tab T_uint64 1 fU64 pg gs.length cg gs * (Ar a s * old W)))) (by ac_rfl)) hs) ?_
  rintro _ w6 ⟨pw, lw, cw, rfl, rfl, h6⟩
  have hlive : (liveFrom 0 s.sp).length = s.cnt := by rw [liveFrom_length]; exact hs.cnt.symm
  obtain ⟨ps, hps⟩ : ∃ ps, ps = (liveFrom 0 s.sp).map pairOf := ⟨_, rfl⟩
  have hpl : ps.length = s.cnt := by rw [hps, List.length_map, hlive]
  have hfst : ps.map Prod.fst = allFrom 0 s.sp := by rw [hps, allFrom_live, List.map_map]; rfl
  have hit : ∀ k t Pre, (∀ w₀ w, Sat w₀ Pre w → Sat w₀ (blk k #[.pointer (some ⟨a, 0, none⟩)] t * Ar a s) w) → IterC Try.prog fn_arena_Arena_All_1 #[.pointer (some ⟨k, 0, none⟩)] Pre (ps.map enc2) := by
    intro k t Pre hP
    rw [hps, List.map_map]
    exact All_iter hs hP
  have h6 := h6.perm (B := Ar a s * (blk b #[.pointer (some ⟨a, 0, none⟩), .pointer (some ⟨r, 0, none⟩), .slice pg gs.length cg] T_tenonlaw02_Pair * (tab T_uint64 1 fU64 pw s.cnt cw (allFrom 0 s.sp) * (RAr r s * old W)) * tab T_uint64 1 fU64 pg gs.length cg gs)) (by ac_rfl)
  refine asS_ok <| nn_ok <| ldP_ok (h6.right.left.left.cell (i := 0) rfl) <| call_mono (handles_ok (by omega) hit h6) ?_
  rintro _ w7 ⟨p1, m, c1, q1, d1, rfl, hm1, h7⟩
  have hm1 : m = s.cnt := by rw [hm1, hpl]; simp; omega
  subst hm1
  have etk : ps.take s.cnt = ps := List.take_of_length_le (by omega)
  rw [etk, hfst] at h7
  have h7 := h7.perm (B := tab T_uint64 1 fU64 p1 s.cnt c1 (allFrom 0 s.sp) * (tab T_int 1 fI64 q1 s.cnt d1 (ps.map Prod.snd) * (tab T_uint64 1 fU64 pw s.cnt cw (allFrom 0 s.sp) * (blk b #[.pointer (some ⟨a, 0, none⟩), .pointer (some ⟨r, 0, none⟩), .slice pg gs.length cg] T_tenonlaw02_Pair * (Ar a s * (RAr r s * (tab T_uint64 1 fU64 pg gs.length cg gs * old W))))))) (by ac_rfl)
  refine ⟨_, _, _, _, _, _, rfl, call_reads (SameLongs_ok (xs := allFrom 0 s.sp) (ys := allFrom 0 s.sp) (Sat.rd (t := T_uint64) (c := c1) h7.left) (Sat.rd (t := T_uint64) (c := cw) h7.right.right.left) (by omega)) fun w8 hw8 => asB_ok <| br_false (by simp) ?_⟩
  have h8 := h7.same hw8
  have hal : (allFrom 0 s.sp).length = s.cnt := by rw [← hfst, List.length_map, hpl]
  refine ⟨fun i w n => 0 ≤ i ∧ i ≤ s.cnt ∧ n = s.cnt - i.toNat ∧ Sat W (tab T_uint64 1 fU64 p1 s.cnt c1 (allFrom 0 s.sp) * (tab T_int 1 fI64 q1 s.cnt d1 (ps.map Prod.snd) * (tab T_uint64 1 fU64 pw s.cnt cw (allFrom 0 s.sp) * (blk b #[.pointer (some ⟨a, 0, none⟩), .pointer (some ⟨r, 0, none⟩), .slice pg gs.length cg] T_tenonlaw02_Pair * (Ar a s * (RAr r s * (tab T_uint64 1 fU64 pg gs.length cg gs * old W))))))) w, ⟨_, by omega, by omega, rfl, h8⟩, ?_⟩
  rintro u i w9 n ⟨h0, hi, rfl, h9⟩
  refine br_dec (fun hlt => ?_) (fun hge => ?_)
  · have hil : i.toNat < (liveFrom 0 s.sp).length := by omega
    obtain ⟨⟨j, y⟩, hjy⟩ : ∃ z, (liveFrom 0 s.sp)[i.toNat]? = some z := ⟨(liveFrom 0 s.sp)[i.toNat], by simp [hil]⟩
    obtain ⟨_, hy, hy1⟩ := liveFrom_get _ _ _ _ hjy
    rw [Nat.sub_zero] at hy
    have hgy := hs.g y (List.mem_of_getElem? hy)
    have hjl := (List.getElem?_eq_some_iff.1 hy).1
    have ha : (allFrom 0 s.sp)[i.toNat]? = some (hd j y.g) := by rw [allFrom_live, List.getElem?_map, hjy]; rfl
    have hsn : (ps.map Prod.snd)[i.toNat]? = some y.x := by rw [hps, List.map_map, List.getElem?_map, hjy]; rfl
    have hr := hd_range (i := j) (g := y.g) (by omega) (by omega) (by omega)
    have hmod : hd j y.g % 4294967296 = j + 1 := by unfold hd; omega
    have hfind : find s (hd j y.g) = some j := (find_iff hs).2 ⟨y, hy, hy1, rfl⟩
    refine tab_idx fU64_len h9.left (by decide) h0 ha fun g hg => ldI_ok (tab_cell fU64_len (j := 0) h9.left hg ha (by decide) rfl) <| call_pure (arena_Split_ok hr.1 hr.2) ⟨_, _, rfl, ?_⟩
    have h9 := h9.drew
    obtain ⟨pr, cr, qr, dr, h9r⟩ := RAr.open_ h9.right.right.right.right.right
    refine tab_idx fI64_len h9.right.left (by decide) h0 hsn fun g2 hg2 => ldI_ok (tab_cell fI64_len (j := 0) h9.right.left hg2 hsn (by decide) rfl) <| nn_ok <| ldP_ok (h9.right.right.right.left.cell (i := 1) rfl) <| nn_ok <| ldS_ok (h9r.left.cell (i := 2) rfl) <| nn_ok <| ldP_ok (h9.right.right.right.left.cell (i := 1) rfl) <| tab_idx fU64_len h9.left (by decide) h0 ha fun g3 hg3 => ldI_ok (tab_cell fU64_len (j := 0) h9.left hg3 ha (by decide) rfl) <| call_mono (ref_At_ok h9.right.right.right.right.right hs) ?_
    rintro _ w10 ⟨rfl, rfl⟩
    rw [hfind]
    have hy' : s.sp[(j : Int).toNat]? = some y := by rw [Int.toNat_natCast]; exact hy
    refine asI_ok ⟨h9r.left.cell (i := 2) rfl, h9.right.right.right.left.cell (i := 1) rfl, tab_cell fI64_len (j := 0) h9.right.left hg2 hsn (by decide) rfl, tab_idx refF_len h9r.right.left (by decide) (by show (0 : Int) ≤ j; omega) hy' fun g4 hg4 => ldI_ok (tab_cell refF_len (j := 0) h9r.right.left hg4 hy' (by decide) rfl) <| br_false (by simp) ?_⟩
    have last : ∀ {K : Int → Prop}, K (hd j y.g % 4294967296) → arith .u32 (hd j y.g) K := fun h => arith_u32_mod h
    refine br_dec (fun hpos => ?_) (fun hzero => ?_)
    · obtain ⟨⟨j', y'⟩, hjy'⟩ : ∃ z, (liveFrom 0 s.sp)[(i - 1).toNat]? = some z := ⟨(liveFrom 0 s.sp)[(i - 1).toNat]'(by omega), by simp⟩
      have ha' : (allFrom 0 s.sp)[(i - 1).toNat]? = some (hd j' y'.g) := by rw [allFrom_live, List.getElem?_map, hjy']; rfl
      have hrise : j' < j := liveFrom_rise s.sp 0 (i - 1).toNat (j', y') (j, y) hjy' (by rw [show (i - 1).toNat + 1 = i.toNat by omega]; exact hjy)
      have hmod' : hd j' y'.g % 4294967296 = j' + 1 := by unfold hd; omega
      refine tab_idx fU64_len h9.left (by decide) h0 ha fun g5 hg5 => ldI_ok (tab_cell fU64_len (j := 0) h9.left hg5 ha (by decide) rfl) <| arith_u32_mod <| arith_i64 (by omega) (by omega) <| tab_idx fU64_len h9.left (by decide) (by omega) ha' fun g6 hg6 => ldI_ok (tab_cell fU64_len (j := 0) h9.left hg6 ha' (by decide) rfl) <| arith_u32_mod <| br_dec (fun hle => ?_) (fun _ => ?_)
      · rw [hmod, hmod'] at hle; omega
      · refine tab_idx fU64_len h9.left (by decide) h0 ha fun g7 hg7 => ldI_ok (tab_cell fU64_len (j := 0) h9.left hg7 ha (by decide) rfl) <| arith_u32_mod <| arith_i64 (by omega) (by omega) <| arith_i64 (by omega) (by omega) <| br_false (by simp) <| arith_i64 (by omega) (by omega) ⟨_, by omega, by omega, by omega, rfl, h9⟩
    · refine tab_idx fU64_len h9.left (by decide) h0 ha fun g7 hg7 => ldI_ok (tab_cell fU64_len (j := 0) h9.left hg7 ha (by decide) rfl) <| arith_u32_mod <| arith_i64 (by omega) (by omega) <| arith_i64 (by omega) (by omega) <| br_false (by simp) <| arith_i64 (by omega) (by omega) ⟨_, by omega, by omega, by omega, rfl, h9⟩
  · obtain ⟨k, hp, hk0, hk1, _⟩ := tenonref01_Pick_ok stop ((s.cnt : Int) + 1) hst.1 hst.2 (by omega) (by omega)
    have hk1 := hk1 (by omega)
    refine arith_i64 (by omega) (by omega) <| call_pure hp <| asI_ok <| nn_ok <| ldP_ok (h9.right.right.right.left.cell (i := 0) rfl) <| call_mono (handles_ok (by omega) hit (h9.perm (B := Ar a s * (tab T_uint64 1 fU64 pw s.cnt cw (allFrom 0 s.sp) * (old W * (tab T_uint64 1 fU64 p1 s.cnt c1 (allFrom 0 s.sp) * (tab T_int 1 fI64 q1 s.cnt d1 (ps.map Prod.snd) * (blk b #[.pointer (some ⟨a, 0, none⟩), .pointer (some ⟨r, 0, none⟩), .slice pg gs.length cg] T_tenonlaw02_Pair * (RAr r s * tab T_uint64 1 fU64 pg gs.length cg gs))))))) (by ac_rfl))) ?_
    rintro _ w10 ⟨p2, m, c2, q2, d2, rfl, hm2, h10⟩
    have hm2 : m = k.toNat := by rw [hm2, hpl]; omega
    subst hm2
    have e1 : (ps.take k.toNat).map Prod.fst = (allFrom 0 s.sp).take k.toNat := by rw [List.map_take, hfst]
    rw [e1] at h10
    have h10 := h10.perm (B := tab T_uint64 1 fU64 pw s.cnt cw (allFrom 0 s.sp) * (tab T_uint64 1 fU64 p2 k.toNat c2 ((allFrom 0 s.sp).take k.toNat) * (old W * (tab T_int 1 fI64 q2 k.toNat d2 ((ps.take k.toNat).map Prod.snd) * (Ar a s * (tab T_uint64 1 fU64 p1 s.cnt c1 (allFrom 0 s.sp) * (tab T_int 1 fI64 q1 s.cnt d1 (ps.map Prod.snd) * (blk b #[.pointer (some ⟨a, 0, none⟩), .pointer (some ⟨r, 0, none⟩), .slice pg gs.length cg] T_tenonlaw02_Pair * (RAr r s * tab T_uint64 1 fU64 pg gs.length cg gs))))))))) (by ac_rfl)
    refine ⟨_, _, _, _, _, _, rfl, slc_own (h10 : Sat W (own T_uint64 1 pw s.cnt cw ((allFrom 0 s.sp).flatMap fU64) * _) w10) hk0 (by omega) ?_⟩
    have h11 := tab_cut fU64_len h10 (show k.toNat ≤ s.cnt by omega)
    refine call_reads (SameLongs_ok (xs := (allFrom 0 s.sp).take k.toNat) (ys := (allFrom 0 s.sp).take k.toNat) (Sat.rd (t := T_uint64) (c := c2) h11.right.left) (Sat.rd (t := T_uint64) (c := cw) h11.left) (by omega)) fun w12 hw12 => asB_ok <| br_true (by simp) ?_
    refine call_mono (tenonlaw02_awake_ok (h11.same hw12).right.right) ?_
    rintro _ w2 ⟨rfl, h2⟩
    exact asB_ok ⟨rfl, h2.left.below'⟩
theorem ArenaAll_row {W : World} {v : Value} {most stop : Int} (hm : IntKind.i64.min ≤ most ∧ most ≤ IntKind.i64.max) (h : ∃ p l c xs, v = .slice p l c ∧ l ≤ 9223372036854775807 ∧ Acts W p l xs) (hs : IntKind.i64.min ≤ stop ∧ stop ≤ IntKind.i64.max) :
    call Try.prog fn_tenonlaw02_ArenaAll #[.int .i64 most, v, .int .i64 stop] W fun v w' => v = .bool true ∧ Below W.heap.size W w' := by
  simp [IntKind.min, IntKind.max, IntKind.signed, IntKind.bits] at hm hs
  obtain ⟨p, l, c, xs, rfl, hl, hx⟩ := h
  exact ArenaAll_walk hm hx hl hs
end Go.Proofs.Ytifcjbgkcgbefaa
