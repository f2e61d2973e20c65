/- WeakPlays, WeakTells: the walks. No conditions. -/
import Derived.Test.YtiogdefiokmmkaaWK6
set_option linter.unusedVariables false
set_option linter.unusedSimpArgs false
set_option maxRecDepth 100000
namespace Go.Proofs.Ytiogdefiokmmkaa
open Go.Sp Go.RowKit

theorem awake_done {W w : World} {F : HP} (h : Sat W (F * old W) w) : call Try.prog fn_tenonlaw12_awake #[] w fun v w' => asB v fun b => (Value.bool b) = .bool true ∧ Below W.heap.size W w' := by
  refine call_mono (tenonlaw12_awake_ok h) ?_
  rintro _ w2 ⟨rfl, h2⟩
  exact asB_ok ⟨rfl, (h2.right).below'⟩
theorem WeakPlays_walk {W : World} {p : Option Addr} {l c : Nat} {xs : List WAct} {most : Int} (hx : Acts W p l xs) (hl : l ≤ 9223372036854775807) :
    call Try.prog fn_tenonlaw12_WeakPlays #[.int .i64 most, .slice p l c] W fun v w' => v = .bool true ∧ Below W.heap.size W w' := by
  apply tenonlaw12_WeakPlays_call
  unfold tenonlaw12_WeakPlays
  by_cases hbad : most < 1 ∨ most > 65536
  · exact call_pure (weak_New_no hbad) ⟨_, _, rfl, call_pure (rt_New_no hbad) <| asP_ok <| br_true rfl <| br_true rfl <| br_true rfl <| awake_done (F := emp) (Sat.start _).with_emp⟩
  · refine call_mono (weak_New_ok (Sat.start W) (by omega) (by omega)) ?_
    rintro _ w1 ⟨b, a, r, rfl, h1⟩
    refine ⟨_, _, rfl, call_mono (rt_New_ok h1 (by omega) (by omega)) ?_⟩
    rintro _ w2 ⟨rb0, r0, rfl, h2⟩
    refine asP_ok <| br_false rfl <| call_mono (rt_New_ok h2.right (by omega) (by omega)) ?_
    rintro _ w4 ⟨br, rr, rfl, h4⟩
    refine asP_ok <| new_ok h4 fun pb w5 h5 => ?_
    have h5 : Sat W (Pr pb b a r br rr 1 ⟨most, 1, [], [], 0⟩ * old W) w5 := Pr.shut (l := 0) (p := none) (c := 0) (hs := []) (by simp) (by simp) ((tab_nil T_uint64 1 fU64 h5).perm (by
      show tab _ _ _ _ _ _ _ * (blk pb (prA b br none 0 0) T_tenonlaw12_Pair * _) = _
      ac_rfl))
    refine ⟨fun i w n => ∃ s : WS, 0 ≤ i ∧ i ≤ 200 ∧ n = 200 - i.toNat ∧ Sat W (Pr pb b a r br rr (1 + i) s * old W) w, ⟨_, _, by omega, by omega, rfl, h5⟩, ?_⟩
    rintro u i w6 n ⟨s, h0, hi, rfl, h6⟩
    refine br_dec (fun hlt => br_dec (fun hlt2 => ?_) (fun _ => br_true rfl <| awake_done h6)) (fun _ => br_true rfl <| awake_done h6)
    refine hx.idx h6.right h0 hlt fun a0 x hxa ha => ha.ld <| call_mono (Pair_do_ok h6 ha.toActIn (by omega) (by omega)) ?_
    rintro _ w7 ⟨rfl, s', hm', h7⟩
    exact asB_ok <| br_false rfl <| arith_i64 (by omega) (by omega) ⟨_, by omega, s', by omega, by omega, rfl, by rw [show 1 + (i + 1) = 1 + i + 1 by omega]; exact h7⟩
theorem WeakPlays_row {W : World} {v : Value} {most : Int} (hm : IntKind.i64.min ≤ most ∧ most ≤ IntKind.i64.max) (h : ∃ p l c xs, v = .slice p l c ∧ l ≤ 9223372036854775807 ∧ Acts W p l xs) :
    call Try.prog fn_tenonlaw12_WeakPlays #[.int .i64 most, v] W fun v w' => v = .bool true ∧ Below W.heap.size W w' := by
  obtain ⟨p, l, c, xs, rfl, hl, hx⟩ := h
  exact WeakPlays_walk hx hl

theorem live_len {s : WS} (hs : AOk s) : (pairsW s).length = s.cnt ∧ (s.cnt : Int) ≤ s.most := by
  have := hs.bound
  have := hs.len
  exact ⟨by rw [pairsW, List.length_map, liveFrom_length]; exact hs.cnt.symm, by omega⟩
theorem fst_pairs {s : WS} : (pairsW s).map Prod.fst = allFrom 0 s.sp := by rw [allFrom_live, pairsW, List.map_map]; rfl
theorem weak_hit {w₀ : World} {b a r : Nat} {N : Int} {s : WS} (hs : WOk N s) : ∀ k t (Pre : Nat → HP), (∀ j w, Sat w₀ (Pre j) w → Sat w₀ (blk k #[.pointer (some ⟨b, 0, none⟩)] t) w) → (∀ j w, Sat w₀ (Pre j) w → Sat w₀ (WT b a r N s) w) →
    IterC Try.prog w₀ fn_weak_Table_Blocks_1 #[.pointer (some ⟨k, 0, none⟩)] Pre ((pairsW s).map encW) :=
  fun _ _ _ hP hQ => wBlocks_iter hP hQ hs
theorem WeakTells_walk {W : World} {p : Option Addr} {l c : Nat} {xs : List WAct} {stop : Int} (hx : Acts W p l xs) (hl : l ≤ 9223372036854775807) (hst : -9223372036854775808 ≤ stop ∧ stop ≤ 9223372036854775807) :
    call Try.prog fn_tenonlaw12_WeakTells #[.slice p l c, .int .i64 stop] W fun v w' => v = .bool true ∧ Below W.heap.size W w' := by
  apply tenonlaw12_WeakTells_call
  unfold tenonlaw12_WeakTells
  refine call_mono (weak_New_ok (most := 20) (Sat.start W) (by omega) (by omega)) ?_
  rintro _ w1 ⟨b, a, r, rfl, h1⟩
  refine ⟨_, _, rfl, call_mono (rt_New_ok (most := 20) h1 (by omega) (by omega)) ?_⟩
  rintro _ w4 ⟨br, rr, rfl, h4⟩
  refine asP_ok <| new_ok h4 fun pb w5 h5 => ?_
  have h5 : Sat W (Pr pb b a r br rr 1 ⟨20, 1, [], [], 0⟩ * old W) w5 := Pr.shut (l := 0) (p := none) (c := 0) (hs := []) (by simp) (by simp) ((tab_nil T_uint64 1 fU64 h5).perm (by
    show tab _ _ _ _ _ _ _ * (blk pb (prA b br none 0 0) T_tenonlaw12_Pair * _) = _
    ac_rfl))
  refine ⟨fun w => ∃ (s : WS) (N : Int), s.most = 20 ∧ Sat W (Pr pb b a r br rr N s * old W) w, ?_, ?_⟩
  · refine ⟨fun i w n => ∃ s : WS, 0 ≤ i ∧ i ≤ 100 ∧ n = 100 - i.toNat ∧ s.most = 20 ∧ Sat W (Pr pb b a r br rr (1 + i) s * old W) w, ⟨_, _, by omega, by omega, rfl, rfl, h5⟩, ?_⟩
    rintro u i w6 n ⟨s, h0, hi, rfl, hm, h6⟩
    refine br_dec (fun hlt => br_dec (fun hlt2 => ?_) (fun _ => ⟨s, _, hm, h6⟩)) (fun _ => ⟨s, _, hm, h6⟩)
    refine hx.idx h6.right h0 hlt fun a0 x hxa ha => ha.ld <| call_mono (Pair_do_ok h6 ha.toActIn (by omega) (by omega)) ?_
    rintro _ w7 ⟨rfl, s', hm', h7⟩
    exact asB_ok <| arith_i64 (by omega) (by omega) ⟨_, by omega, s', by omega, by omega, rfl, hm'.trans hm, by rw [show 1 + (i + 1) = 1 + i + 1 by omega]; exact h7⟩
  rintro u w6 ⟨s, N, hm, h6⟩
  obtain ⟨pp, cc, hs, _, _, h7⟩ := Pr.open_ h6
  have h7 := h7.perm (B := WT b a r N s * (RT br rr s * (blk pb (prA b br pp hs.length cc) T_tenonlaw12_Pair * (tab T_uint64 1 fU64 pp hs.length cc hs * old W)))) (by ac_rfl)
  have ok := (WT.open_ h7).1
  obtain ⟨hpl, hcm⟩ := live_len ok.ok
  obtain ⟨L, pL, cL, hr, h8⟩ := RT.open_ (h7.p1)
  have hsm := hr.small ok.ok
  have h9 := h8.perm (B := RAr rr (z0 s) * (blk br (rtA pL rr L.length cL) T_tenonref12_Table * (tab T_tenonref12_Block 4 rbF pL L.length cL L * (WT b a r N s * (blk pb (prA b br pp hs.length cc) T_tenonlaw12_Pair * (tab T_uint64 1 fU64 pp hs.length cc hs * old W)))))) (by ac_rfl)
  refine ldP_ok (h9.right.right.right.right.left.cell (i := 1) rfl) <| nn_ok <| ldP_ok (h9.right.left.cell (i := 0) rfl) <| call_mono (ref_All_ok h9 ok.ok.mapA) ?_
  rintro _ w7 ⟨pw, lw, cw, rfl, hlw, h10⟩
  obtain rfl : lw = s.cnt := hlw
  have eaf : allFrom 0 (z0 s).sp = allFrom 0 s.sp := allFrom_mapA _ _ _
  rw [eaf] at h10
  have h10 : Sat W (tab T_uint64 1 fU64 pw s.cnt cw (allFrom 0 s.sp) * (RAr rr (z0 s) * (blk br (rtA pL rr L.length cL) T_tenonref12_Table * (tab T_tenonref12_Block 4 rbF pL L.length cL L * (WT b a r N s * (blk pb (prA b br pp hs.length cc) T_tenonlaw12_Pair * (tab T_uint64 1 fU64 pp hs.length cc hs * old W))))))) w7 := h10
  have h10 := h10.perm (B := WT b a r N s * (tab T_uint64 1 fU64 pw s.cnt cw (allFrom 0 s.sp) * (blk br (rtA pL rr L.length cL) T_tenonref12_Table * (tab T_tenonref12_Block 4 rbF pL L.length cL L * (RAr rr (z0 s) * (blk pb (prA b br pp hs.length cc) T_tenonlaw12_Pair * (tab T_uint64 1 fU64 pp hs.length cc hs * old W))))))) (by ac_rfl)
  refine asS_ok <| call_mono (told_ok (ps := pairsW s) (most := 99) (by omega) (weak_hit ok) h10) ?_
  rintro _ w8 ⟨p1, m, c1, q1, d1, rfl, hm1, h11⟩
  have hm1 : m = s.cnt := by rw [hm1, hpl]; simp; omega
  subst hm1
  have etk : (pairsW s).take s.cnt = pairsW s := List.take_of_length_le (by omega)
  rw [etk, fst_pairs] at h11
  obtain ⟨k, hpk, hk0, hk1, _⟩ := tenonref01_Pick_ok stop ((s.cnt : Int) + 1) hst.1 hst.2 (by omega) (by omega)
  have hk1 := hk1 (by omega)
  have h11 := h11.perm (B := WT b a r N s * (tab T_uint64 1 fU64 p1 s.cnt c1 (allFrom 0 s.sp) * (tab T_uint64 1 fU64 q1 s.cnt d1 ((pairsW s).map Prod.snd) * (tab T_uint64 1 fU64 pw s.cnt cw (allFrom 0 s.sp) * (blk br (rtA pL rr L.length cL) T_tenonref12_Table * (tab T_tenonref12_Block 4 rbF pL L.length cL L * (RAr rr (z0 s) * (blk pb (prA b br pp hs.length cc) T_tenonlaw12_Pair * (tab T_uint64 1 fU64 pp hs.length cc hs * old W))))))))) (by ac_rfl)
  refine ⟨_, _, _, _, _, _, rfl, arith_i64 (by omega) (by omega) <| call_pure hpk <| asI_ok <| call_mono (told_ok (ps := pairsW s) (most := k) (by omega) (weak_hit ok) h11) ?_⟩
  rintro _ w9 ⟨p2, m, c2, q2, d2, rfl, hm2, h12⟩
  have hm2 : m = k.toNat := by rw [hm2, hpl]; omega
  subst hm2
  have e1 : ((pairsW s).take k.toNat).map Prod.fst = (allFrom 0 s.sp).take k.toNat := by rw [List.map_take, fst_pairs]
  rw [e1] at h12
  obtain ⟨X, hX⟩ : ∃ X, X = tab T_uint64 1 fU64 q2 k.toNat d2 (((pairsW s).take k.toNat).map Prod.snd) * WT b a r N s := ⟨_, rfl⟩
  have h12 := h12.perm (B := tab T_uint64 1 fU64 p1 s.cnt c1 (allFrom 0 s.sp) * (tab T_uint64 1 fU64 pw s.cnt cw (allFrom 0 s.sp) * (tab T_uint64 1 fU64 p2 k.toNat c2 ((allFrom 0 s.sp).take k.toNat) * (tab T_uint64 1 fU64 q1 s.cnt d1 ((pairsW s).map Prod.snd) * (blk pb (prA b br pp hs.length cc) T_tenonlaw12_Pair * (blk br (rtA pL rr L.length cL) T_tenonref12_Table * (tab T_tenonref12_Block 4 rbF pL L.length cL L * (X * (RAr rr (z0 s) * (tab T_uint64 1 fU64 pp hs.length cc hs * old W)))))))))) (by rw [hX]; ac_rfl)
  refine ⟨_, _, _, _, _, _, rfl, call_reads (SameLongs_ok (xs := allFrom 0 s.sp) (ys := allFrom 0 s.sp) (Sat.rd (t := T_uint64) (c := c1) h12.left) (Sat.rd (t := T_uint64) (c := cw) h12.right.left) (by omega)) fun w10 hw10 => asB_ok <| br_false (by simp) ?_⟩
  have h13 := h12.same hw10
  have h14 := h13.perm (B := tab T_uint64 1 fU64 pw s.cnt cw (allFrom 0 s.sp) * (tab T_uint64 1 fU64 p1 s.cnt c1 (allFrom 0 s.sp) * (tab T_uint64 1 fU64 p2 k.toNat c2 ((allFrom 0 s.sp).take k.toNat) * (tab T_uint64 1 fU64 q1 s.cnt d1 ((pairsW s).map Prod.snd) * (blk pb (prA b br pp hs.length cc) T_tenonlaw12_Pair * (blk br (rtA pL rr L.length cL) T_tenonref12_Table * (tab T_tenonref12_Block 4 rbF pL L.length cL L * (X * (RAr rr (z0 s) * (tab T_uint64 1 fU64 pp hs.length cc hs * old W)))))))))) (by ac_rfl)
  refine slc_own (h14 : Sat W (own T_uint64 1 pw s.cnt cw ((allFrom 0 s.sp).flatMap fU64) * _) w10) hk0 (by omega) ?_
  have h15 := tab_front fU64_len (by decide) h14.left (j := k.toNat) (by omega)
  refine call_reads (SameLongs_ok (xs := (allFrom 0 s.sp).take k.toNat) (ys := (allFrom 0 s.sp).take k.toNat) (Sat.rd (t := T_uint64) (c := c2) h14.right.right.left) h15 (by omega)) fun w11 hw11 => asB_ok <| br_false (by simp) ?_
  have h16 := h13.same hw11
  refine ⟨fun i w n => 0 ≤ i ∧ i ≤ s.cnt ∧ n = s.cnt - i.toNat ∧ Sat W (tab T_uint64 1 fU64 p1 s.cnt c1 (allFrom 0 s.sp) * (tab T_uint64 1 fU64 pw s.cnt cw (allFrom 0 s.sp) * (tab T_uint64 1 fU64 p2 k.toNat c2 ((allFrom 0 s.sp).take k.toNat) * (tab T_uint64 1 fU64 q1 s.cnt d1 ((pairsW s).map Prod.snd) * (blk pb (prA b br pp hs.length cc) T_tenonlaw12_Pair * (blk br (rtA pL rr L.length cL) T_tenonref12_Table * (tab T_tenonref12_Block 4 rbF pL L.length cL L * (X * (RAr rr (z0 s) * (tab T_uint64 1 fU64 pp hs.length cc hs * old W)))))))))) w, ⟨_, by omega, by omega, rfl, h16⟩, ?_⟩
  rintro u i w12 n ⟨h0, hi, rfl, h17⟩
  refine br_dec (fun hlt => ?_) (fun hge => awake_done (h17.perm (B := (tab T_uint64 1 fU64 p1 s.cnt c1 (allFrom 0 s.sp) * (tab T_uint64 1 fU64 pw s.cnt cw (allFrom 0 s.sp) * (tab T_uint64 1 fU64 p2 k.toNat c2 ((allFrom 0 s.sp).take k.toNat) * (tab T_uint64 1 fU64 q1 s.cnt d1 ((pairsW s).map Prod.snd) * (blk pb (prA b br pp hs.length cc) T_tenonlaw12_Pair * (blk br (rtA pL rr L.length cL) T_tenonref12_Table * (tab T_tenonref12_Block 4 rbF pL L.length cL L * (X * (RAr rr (z0 s) * tab T_uint64 1 fU64 pp hs.length cc hs))))))))) * old W) (by ac_rfl)))
  have hil : i.toNat < (liveFrom 0 s.sp).length := by rw [pairsW, List.length_map] at hpl; omega
  obtain ⟨y, hy⟩ : ∃ z, (liveFrom 0 s.sp)[i.toNat]? = some z := ⟨(liveFrom 0 s.sp)[i.toNat], by simp [hil]⟩
  obtain ⟨hyg, hy1⟩ := live_get y (List.mem_of_getElem? hy)
  obtain ⟨ky, bb, hyx, _⟩ := ok.pay y.2 (List.mem_of_getElem? hyg) hy1
  have q : Spt s (hd y.1 y.2.g) y.1 y.2 ky bb := ⟨hyg, hy1, rfl, hyx⟩
  have ha : (allFrom 0 s.sp)[i.toNat]? = some (hd y.1 y.2.g) := by rw [allFrom_live, List.getElem?_map, hy]; rfl
  have hsn : ((pairsW s).map Prod.snd)[i.toNat]? = some bb.tg := by
    rw [pairsW, List.map_map, List.getElem?_map, hy]
    show some (tgOf y.2.x) = _
    rw [hyx]
    rfl
  have h18 := h17.drew
  have hQ := h18.right.right.right.left
  have hB := h18.right.right.right.right.left
  have hT := h18.right.right.right.right.right
  have hL := hT.right.left
  refine tab_idx fU64_len hQ (by decide) h0 hsn fun g hg => ldI_ok (tab_cell fU64_len (j := 0) hQ hg hsn (by decide) rfl) <| ldP_ok (hB.cell (i := 1) rfl) <| nn_ok <| ldS_ok (hT.left.cell (i := 1) rfl) <| ldP_ok (hB.cell (i := 1) rfl) <| tab_idx fU64_len h18.left (by decide) h0 ha fun g2 hg2 => ldI_ok (tab_cell fU64_len (j := 0) h18.left hg2 ha (by decide) rfl) <| call_mono (rt_At_ok hT hsm) ?_
  rintro _ w13 ⟨rfl, rfl⟩
  rcases atW_cases ok hr (hd y.1 y.2.g) with ⟨hno, _⟩ | ⟨i', y', kk, bb', j, q', hat, hj⟩
  · exact (hno _ q.bl).elim
  · obtain rfl := Bl.one ok.ok q.bl q'.bl
    rw [hat]
    have hj' : L[(j : Int).toNat]? = some (hd y.1 y.2.g, bb) := by rw [Int.toNat_natCast]; exact hj
    exact asI_ok ⟨hT.left.cell (i := 1) rfl, hB.cell (i := 1) rfl, tab_cell fU64_len (j := 0) hQ hg hsn (by decide) rfl, tab_idx rbF_len hL (by decide) (by omega) hj' fun g3 hg3 => ldI_ok (tab_cell rbF_len (j := 1) hL hg3 hj' (by decide) rfl) <| br_false (by simp) <| arith_i64 (by omega) (by omega) ⟨_, by omega, by omega, by omega, rfl, h18⟩⟩
theorem WeakTells_row {W : World} {v : Value} {stop : Int} (h : ∃ p l c xs, v = .slice p l c ∧ l ≤ 9223372036854775807 ∧ Acts W p l xs) (hs : IntKind.i64.min ≤ stop ∧ stop ≤ IntKind.i64.max) :
    call Try.prog fn_tenonlaw12_WeakTells #[v, .int .i64 stop] W fun v w' => v = .bool true ∧ Below W.heap.size W w' := by
  simp [IntKind.min, IntKind.max, IntKind.signed, IntKind.bits] at hs
  obtain ⟨p, l, c, xs, rfl, hl, hx⟩ := h
  exact WeakTells_walk hx hl hs
end Go.Proofs.Ytiogdefiokmmkaa
