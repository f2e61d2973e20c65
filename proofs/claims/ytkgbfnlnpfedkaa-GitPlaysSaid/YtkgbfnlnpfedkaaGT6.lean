/- The document's layer 19 (git): leaving, finding; a pair's acts. No conditions. -/
import Derived.Test.YtkgbfnlnpfedkaaGT5
set_option linter.unusedVariables false
set_option linter.unusedSimpArgs false
set_option maxRecDepth 100000
namespace Go.Proofs.Ytkgbfnlnpfedkaa
open Go.Sp Go.RowKit

theorem live_len {s : AS GE} (hs : AOk s) : (liveFrom 0 s.sp).length = s.cnt ∧ s.cnt ≤ 65536 := by
  have := hs.bound
  have := hs.len
  have := hs.most1
  exact ⟨by rw [liveFrom_length]; exact hs.cnt.symm, by omega⟩
/-- The handles that the document's places tell. -/
theorem rt_All_ok {w₀ w : World} {F : HP} {r : Nat} {s : AS GE} (h : Sat w₀ (RAr r (mapA (fun _ => (0 : Int)) s) * F) w) (hs : AOk s) :
    call Try.prog fn_tenonref02_Arena_All #[.pointer (some ⟨r, 0, none⟩)] w fun v w' => ∃ p l c, v = .slice p l c ∧ l = s.cnt ∧ Sat w₀ (tab T_uint64 1 fU64 p l c (allFrom 0 s.sp) * (RAr r (mapA (fun _ => (0 : Int)) s) * F)) w' := by
  refine call_mono (ref_All_ok h hs.mapA) ?_
  rintro _ w' ⟨p, l, c, rfl, rfl, h'⟩
  rw [allFrom_mapA] at h'
  exact ⟨p, _, c, rfl, rfl, h'⟩
theorem all_get {s : AS GE} {i : Nat} (hi : i < (liveFrom 0 s.sp).length) : ∃ y, (liveFrom 0 s.sp)[i]? = some y ∧ (allFrom 0 s.sp)[i]? = some (hd y.1 y.2.g) ∧ s.sp[y.1]? = some y.2 ∧ y.2.st = 1 := by
  have hy : (liveFrom 0 s.sp)[i]? = some ((liveFrom 0 s.sp)[i]'hi) := by simp [hi]
  refine ⟨_, hy, ?_, ?_⟩
  · rw [allFrom_live, List.getElem?_map, hy]; rfl
  · obtain ⟨_, h2, h3⟩ := liveFrom_get _ _ _ _ hy
    exact ⟨by simpa using h2, h3⟩
theorem rt_Find_ok {w₀ w : World} {F : HP} {b r : Nat} {s : AS GE} {x : OR} (hh : Sat w₀ (RT b r s * F) w) (hs : AOk s) :
    call Try.prog fn_tenonref19_Table_Find #[.pointer (some ⟨b, 0, none⟩), .agg (orF x.1)] w fun v w' => v = .int .u64 (firstIs x ((liveFrom 0 s.sp).map pairO)).1 ∧ Sat w₀ (RT b r s * F) w' := by
  apply tenonref19_Table_Find_call
  unfold tenonref19_Table_Find
  obtain ⟨hll, hcn⟩ := live_len hs
  refine new_ok hh fun k1 w1 h1 => ?_
  obtain ⟨L, p, c, hr, h2⟩ := RT.open_ (h1.p1)
  have hsm := hr.small hs
  refine nn_ok <| ldP_ok (h2.left.cell (i := 0) rfl) <| call_mono (rt_All_ok (h2.perm (B := RAr r (mapA (fun _ => (0 : Int)) s) * (blk b #[.pointer (some ⟨r, 0, none⟩), .slice p L.length c] T_tenonref19_Table * (tab T_tenonref19_Entry 38 entF p L.length c L * (blk k1 (orF x.1) T_api_Objref * F)))) (by ac_rfl)) hs) ?_
  rintro _ w2 ⟨p5, l5, c5, rfl, rfl, h3⟩
  have h3 := h3.perm (B := blk b #[.pointer (some ⟨r, 0, none⟩), .slice p L.length c] T_tenonref19_Table * (tab T_tenonref19_Entry 38 entF p L.length c L * (blk k1 (orF x.1) T_api_Objref * (tab T_uint64 1 fU64 p5 s.cnt c5 (allFrom 0 s.sp) * (RAr r (mapA (fun _ => (0 : Int)) s) * F))))) (by ac_rfl)
  have fin : ∀ {w}, Sat w₀ (blk b #[.pointer (some ⟨r, 0, none⟩), .slice p L.length c] T_tenonref19_Table * (tab T_tenonref19_Entry 38 entF p L.length c L * (blk k1 (orF x.1) T_api_Objref * (tab T_uint64 1 fU64 p5 s.cnt c5 (allFrom 0 s.sp) * (RAr r (mapA (fun _ => (0 : Int)) s) * F))))) w → Sat w₀ (RT b r s * F) w := fun h =>
    ((RT.shut hr (h.perm (B := blk b #[.pointer (some ⟨r, 0, none⟩), .slice p L.length c] T_tenonref19_Table * (tab T_tenonref19_Entry 38 entF p L.length c L * (RAr r (mapA (fun _ => (0 : Int)) s) * (blk k1 (orF x.1) T_api_Objref * (tab T_uint64 1 fU64 p5 s.cnt c5 (allFrom 0 s.sp) * F))))) (by ac_rfl))).perm (B := (blk k1 (orF x.1) T_api_Objref * tab T_uint64 1 fU64 p5 s.cnt c5 (allFrom 0 s.sp)) * (RT b r s * F)) (by ac_rfl)).right
  refine asS_ok ⟨fun n w m => 0 ≤ n ∧ n ≤ s.cnt ∧ m = s.cnt - n.toNat ∧ (∀ q ∈ ((liveFrom 0 s.sp).map pairO).take n.toNat, q.2 ≠ x) ∧ Sat w₀ (blk b #[.pointer (some ⟨r, 0, none⟩), .slice p L.length c] T_tenonref19_Table * (tab T_tenonref19_Entry 38 entF p L.length c L * (blk k1 (orF x.1) T_api_Objref * (tab T_uint64 1 fU64 p5 s.cnt c5 (allFrom 0 s.sp) * (RAr r (mapA (fun _ => (0 : Int)) s) * F))))) w, ⟨_, by omega, by omega, rfl, by simp, h3⟩, ?_⟩
  rintro u n w3 m ⟨h0, hn, rfl, hno, h4⟩
  refine br_dec (fun hlt => ?_) (fun hge => ?_)
  · have h5 := h4.drew
    obtain ⟨y, hy, ha, hsy, hs1⟩ := all_get (s := s) (i := n.toNat) (by omega)
    have hT := h5.right.right.right.left
    have hpy : ((liveFrom 0 s.sp).map pairO)[n.toNat]? = some (pairO y) := by rw [List.getElem?_map, hy]; rfl
    refine nn_ok <| ldS_ok (h5.left.cell (i := 1) rfl) <| tab_idx fU64_len hT (by decide) h0 ha fun g hg => ldI_ok (tab_cell fU64_len (j := 0) hT hg ha (by decide) rfl) <| ldA_blk0 h5.right.right (orF_sz x) <| call_mono (rt_At_ok h5 hsm) ?_
    rintro _ w4 ⟨rfl, rfl⟩
    rcases atI_cases hs hr (hd y.1 y.2.g) with ⟨hf, _⟩ | ⟨i, y', j, hf, hy', hy1, hhd, hat, hj⟩
    · rw [(find_iff hs).2 ⟨y.2, hsy, hs1, rfl⟩] at hf; cases hf
    · have e1 : i = y.1 := by rw [(find_iff hs).2 ⟨y.2, hsy, hs1, rfl⟩] at hf; exact (Option.some.inj hf).symm
      subst e1
      rw [hsy] at hy'
      cases hy'
      rw [hat]
      have hj' : L[(j : Int).toNat]? = some (hd y.1 y.2.g, y.2.x) := by rw [Int.toNat_natCast]; exact hj
      refine asI_ok <| keepS_blk0 h5.right.right ⟨h5.left.cell (i := 1) rfl, tab_idx entF_len h5.right.left (by decide) (by omega) hj' fun g2 hg2 => tab_ldA entF_len (o := 2) (n := 36) h5.right.left hg2 hj' (by decide) (entF_or _) ?_⟩
      rw [orC_arr]
      refine or_eq <| br_dec (fun he => ?_) (fun hne => ?_)
      · refine tab_idx fU64_len hT (by decide) h0 ha fun g hg => ldI_ok (tab_cell fU64_len (j := 0) hT hg ha (by decide) rfl) ⟨?_, fin h5⟩
        have hlt2 := (List.getElem?_eq_some_iff.1 hpy).1
        have e3 : (liveFrom 0 s.sp).map pairO = ((liveFrom 0 s.sp).map pairO).take n.toNat ++ pairO y :: ((liveFrom 0 s.sp).map pairO).drop (n.toNat + 1) := by
          conv => lhs; rw [← List.take_append_drop n.toNat ((liveFrom 0 s.sp).map pairO), List.drop_eq_getElem_cons hlt2]
          rw [List.getElem?_eq_getElem hlt2] at hpy
          rw [Option.some.inj hpy]
        have : firstIs x ((liveFrom 0 s.sp).map pairO) = (hd y.1 y.2.g, true) := by
          unfold firstIs
          rw [e3, List.find?_append, List.find?_eq_none.2 (by simpa using hno)]
          have : (pairO y).2 = x := he
          simp [this]
          rfl
        rw [this]
      · refine arith_i64 (by omega) (by omega) ⟨_, by omega, by omega, by omega, rfl, fun q hq => ?_, h5⟩
        rw [show (n + 1).toNat = n.toNat + 1 by omega, List.take_add_one, hpy] at hq
        rcases List.mem_append.1 hq with hq | hq
        · exact hno q hq
        · simp at hq; subst hq; exact hne
  · have e : ((liveFrom 0 s.sp).map pairO).take n.toNat = (liveFrom 0 s.sp).map pairO := List.take_of_length_le (by rw [List.length_map]; omega)
    rw [e] at hno
    have : firstIs x ((liveFrom 0 s.sp).map pairO) = (0, false) := by
      unfold firstIs
      rw [List.find?_eq_none.2 (by simpa using hno)]
    rw [this]
    exact ⟨rfl, fin h4⟩
theorem rt_Leave_ok {w₀ w : World} {F : HP} {b r : Nat} {s : AS GE} {o : Int} (hh : Sat w₀ (RT b r s * F) w) (hs : AOk s) :
    call Try.prog fn_tenonref19_Table_Leave #[.pointer (some ⟨b, 0, none⟩), .int .i64 o] w fun v w' => ∃ p l c, v = .slice p l c ∧ l = (leave s o).2.length ∧ Sat w₀ (tab T_api_Objref 36 orC p l c ((leave s o).2.map (·.2)) * (RT b r (leave s o).1 * F)) w' := by
  apply tenonref19_Table_Leave_call
  unfold tenonref19_Table_Leave
  obtain ⟨hll, hcn⟩ := live_len hs
  obtain ⟨L, p, c, hr, h2⟩ := RT.open_ hh
  refine nn_ok <| ldP_ok (h2.left.cell (i := 0) rfl) <| call_mono (rt_All_ok (h2.perm (B := RAr r (mapA (fun _ => (0 : Int)) s) * (blk b #[.pointer (some ⟨r, 0, none⟩), .slice p L.length c] T_tenonref19_Table * (tab T_tenonref19_Entry 38 entF p L.length c L * F))) (by ac_rfl)) hs) ?_
  rintro _ w2 ⟨p5, l5, c5, rfl, rfl, h3⟩
  have h3 := RT.shut (p := p) (l := L.length) (c := c) hr (h3.perm (B := blk b #[.pointer (some ⟨r, 0, none⟩), .slice p L.length c] T_tenonref19_Table * (tab T_tenonref19_Entry 38 entF p L.length c L * (RAr r (mapA (fun _ => (0 : Int)) s) * (tab T_uint64 1 fU64 p5 s.cnt c5 (allFrom 0 s.sp) * F)))) (by ac_rfl))
  let rr : Nat → AS GE × List GE := fun j => dropAll ge0 (ofO o) s ((liveFrom 0 s.sp).take j)
  refine asS_ok ⟨fun p8 l8 c8 n w m => 0 ≤ n ∧ n ≤ s.cnt ∧ m = s.cnt - n.toNat ∧ l8 = (rr n.toNat).2.length ∧ Sat w₀ (tab T_api_Objref 36 orC p8 l8 c8 ((rr n.toNat).2.map (·.2)) * (RT b r (rr n.toNat).1 * (tab T_uint64 1 fU64 p5 s.cnt c5 (allFrom 0 s.sp) * F))) w,
    ⟨_, by omega, by omega, rfl, rfl, tab_nil T_api_Objref 36 orC h3⟩, ?_⟩
  rintro u p8 l8 c8 n w3 m ⟨h0, hn, rfl, hl8, h4⟩
  refine br_dec (fun hlt => ?_) (fun hge => ?_)
  · obtain ⟨j, rfl⟩ : ∃ j : Nat, n = j := ⟨n.toNat, by omega⟩
    rw [Int.toNat_natCast] at h4 hl8
    subst hl8
    have e1 : ((j : Int) + 1).toNat = j + 1 := by omega
    obtain ⟨y, hy, ha, hsy, hs1⟩ := all_get (s := s) (i := j) (by omega)
    have ha' : (allFrom 0 s.sp)[(j : Int).toNat]? = some (hd y.1 y.2.g) := by rw [Int.toNat_natCast]; exact ha
    have hjl : j < (liveFrom 0 s.sp).length := by omega
    have e2 : (liveFrom 0 s.sp).take (j + 1) = (liveFrom 0 s.sp).take j ++ [y] := by rw [List.take_add_one, hy]; rfl
    have e3 : liveFrom 0 s.sp = (liveFrom 0 s.sp).take j ++ y :: (liveFrom 0 s.sp).drop (j + 1) := by
      conv => lhs; rw [← List.take_append_drop j (liveFrom 0 s.sp), List.drop_eq_getElem_cons hjl]
      rw [List.getElem?_eq_getElem hjl] at hy
      rw [Option.some.inj hy]
    have hnd := live_nodup s.sp 0
    have hlg := live_get (s := s)
    rw [e3] at hnd
    obtain ⟨d1, d2, d3, _⟩ := dropAll_ok (z := ge0) (q := ofO o) hs (y :: (liveFrom 0 s.sp).drop (j + 1)) _ ((liveFrom 0 s.sp).take j) rfl hnd (by rw [← e3]; exact hlg)
    have hyj : (rr j).1.sp[y.1]? = some y.2 := d3 y (.head _)
    have hrl : (rr j).2.length ≤ j := by
      show (dropAll ge0 (ofO o) s ((liveFrom 0 s.sp).take j)).2.length ≤ j
      rw [dropAll_snd, List.length_map]
      refine Nat.le_trans (List.length_filter_le _ _) ?_
      rw [List.length_take]
      omega
    obtain ⟨L, p, c, hr, h5⟩ := RT.open_ ((h4.drew).p1)
    have hsm := hr.small d1
    have hT := h5.right.right.right.right.left
    refine nn_ok <| ldS_ok (h5.left.cell (i := 1) rfl) <| tab_idx fU64_len hT (by decide) h0 ha' fun g hg => ldI_ok (tab_cell fU64_len (j := 0) hT hg ha' (by decide) rfl) <| call_mono (rt_At_ok h5 hsm) ?_
    rintro _ w4 ⟨rfl, rfl⟩
    have hfj : find (rr j).1 (hd y.1 y.2.g) = some y.1 := (find_iff d1).2 ⟨y.2, hyj, hs1, rfl⟩
    rcases atI_cases d1 hr (hd y.1 y.2.g) with ⟨hf, _⟩ | ⟨i, y', k, hf, hy', hy1, hhd, hat, hk⟩
    · rw [hfj] at hf; cases hf
    · have e4 : i = y.1 := by rw [hfj] at hf; exact (Option.some.inj hf).symm
      subst e4
      rw [hyj] at hy'
      cases hy'
      rw [hat]
      have hk' : L[(k : Int).toNat]? = some (hd y.1 y.2.g, y.2.x) := by rw [Int.toNat_natCast]; exact hk
      refine asI_ok ⟨h5.left.cell (i := 1) rfl, tab_idx entF_len h5.right.left (by decide) (by omega) hk' fun g2 hg2 => ldI_ok (tab_cell entF_len (j := 1) h5.right.left hg2 hk' (by decide) rfl) <| br_split (fun hq => ?_) (fun hq => ?_)⟩
      · have hq : ofO o y.2.x = true := by simpa [ofO] using hq
        have er : rr (j + 1) = (dropS ge0 (rr j).1 y.1, (rr j).2 ++ [y.2.x]) := by
          show dropAll ge0 (ofO o) s ((liveFrom 0 s.sp).take (j + 1)) = _
          rw [e2, dropAll_snoc, if_pos hq]
        refine tab_idx fU64_len hT (by decide) h0 ha' fun g3 hg3 => ldI_ok (tab_cell fU64_len (j := 0) hT hg3 ha' (by decide) rfl) <| call_mono (rt_Drop_ok (h := hd y.1 y.2.g) ((h4.drew).p1) d1) ?_
        rw [dropR_some hfj hyj]
        rintro _ w5 ⟨rfl, h6⟩
        refine ⟨_, _, rfl, new_ok h6 fun k24 w6 h7 => stA_ok h7 rfl (orF_sz y.2.x.2) (orF_oneA y.2.x.2) fun w7 h8 => ldA_blk0 h8 (orF_sz y.2.x.2) ⟨orF_sz y.2.x.2, new_ok h8.right fun k26 w8 h9 => ?_⟩⟩
        refine tab_app orsTy orC_len (by decide) orC_one (x := y.2.x.2) (h9.perm (B := _ * (tab T_api_Objref 36 orC p8 (rr j).2.length c8 ((rr j).2.map (·.2)) * (RT b r (dropS ge0 (rr j).1 y.1) * (tab T_uint64 1 fU64 p5 s.cnt c5 (allFrom 0 s.sp) * F)))) (by ac_rfl)) (orC_arr _).symm (by simp only [maxLen]; omega) (by omega) fun p' c' w9 h10 => ?_
        refine arith_i64 (by omega) (by omega) ⟨_, ?_, by omega, by omega, rfl, ?_, ?_⟩
        · omega
        · rw [e1, er]; simp
        · rw [e1, er, List.map_append]; exact h10
      · have hq : ¬ ofO o y.2.x = true := by simpa [ofO] using hq
        have er : rr (j + 1) = rr j := by
          show dropAll ge0 (ofO o) s ((liveFrom 0 s.sp).take (j + 1)) = _
          rw [e2, dropAll_snoc, if_neg hq]
        refine arith_i64 (by omega) (by omega) ⟨_, ?_, by omega, by omega, rfl, ?_, ?_⟩
        · omega
        · rw [e1, er]
        · rw [e1, er]; exact h4.drew
  · have er : rr n.toNat = leave s o := by
      show dropAll ge0 (ofO o) s ((liveFrom 0 s.sp).take n.toNat) = _
      rw [List.take_of_length_le (by omega)]
      rfl
    rw [er] at h4 hl8
    exact ⟨p8, l8, c8, rfl, hl8, (h4.perm (B := tab T_uint64 1 fU64 p5 s.cnt c5 (allFrom 0 s.sp) * (tab T_api_Objref 36 orC p8 l8 c8 ((leave s o).2.map (·.2)) * (RT b r (leave s o).1 * F))) (by ac_rfl)).right⟩
theorem SameRefs_ok {w : World} {p q : Option Addr} {l c m d : Nat} {xs ys : List OR} (hx : Rd w 36 p l (xs.flatMap orC)) (hy : Rd w 36 q m (ys.flatMap orC)) (hl : l ≤ 4611686018427387904) :
    Reads Try.prog fn_tenonref18_SameRefs #[.slice p l c, .slice q m d] w (.bool (decide (xs = ys))) := by
  apply tenonref18_SameRefs_call
  unfold tenonref18_SameRefs
  have el : xs.length = l := by have := hx.1; rw [flatLen orC_len] at this; omega
  have em : ys.length = m := by have := hy.1; rw [flatLen orC_len] at this; omega
  refine br_split (fun hne => ?_) (fun heq => ?_)
  · refine ⟨?_, Same.refl w⟩
    rw [decide_eq_false]
    intro e
    subst e
    simp [← el, em] at hne
  · have hlm' : (l : Int) = m := by simpa using heq
    have hlm : l = m := by omega
    refine ⟨fun n w' k => 0 ≤ n ∧ n ≤ l ∧ k = l - n.toNat ∧ xs.take n.toNat = ys.take n.toNat ∧ Same w w', ⟨_, by omega, by omega, rfl, by simp, Same.refl w⟩, ?_⟩
    rintro u n w1 k ⟨h0, h1, rfl, he, hw⟩
    refine br_dec (fun hlt => ?_) (fun hge => ?_)
    · have hi : n.toNat < xs.length := by omega
      have hj : n.toNat < ys.length := by omega
      have hxi : xs[n.toNat]? = some xs[n.toNat] := by simp [hi]
      have hyi : ys[n.toNat]? = some ys[n.toNat] := by simp [hj]
      refine idx_ok (hx.same hw.drew) h0 (by omega) fun a ha => rd_refs (hx.same hw.drew) ha hxi <| idx_ok (hy.same hw.drew) h0 (by omega) fun b hb => rd_refs (hy.same hw.drew) hb hyi <| or_eq <| br_split (fun hne => ?_) (fun heq => ?_)
      · refine ⟨?_, hw.drew⟩
        rw [decide_eq_false]
        intro e
        subst e
        simp at hne
      · have heq : xs[n.toNat] = ys[n.toNat] := by simpa using heq
        refine arith_i64 (by omega) (by omega) ⟨_, by omega, by omega, by omega, rfl, ?_, hw.drew⟩
        rw [show (n + 1).toNat = n.toNat + 1 by omega, List.take_add_one, List.take_add_one, he, hxi, hyi, heq]
    · refine ⟨?_, hw⟩
      rw [List.take_of_length_le (by omega), List.take_of_length_le (by omega)] at he
      rw [he]
      simp
end Go.Proofs.Ytkgbfnlnpfedkaa
