/- HeapTells: the walk. No conditions. -/
import Derived.Test.YtgchemgnmijpdaaHG2
import Derived.Test.YtgchemgnmijpdaaHG3
import Derived.Test.YtgchemgnmijpdaaSpC
set_option linter.unusedVariables false
set_option linter.unusedSimpArgs false
set_option maxRecDepth 100000
namespace Go.Proofs.Ytgchemgnmijpdaa
open Go.Sp Go.RowKit

section
variable {w₀ w : World} {F G : HP}
def grA (pc : Option Addr) (n cc : Nat) (pe : Option Addr) (m ce : Nat) : Array Value := #[.slice pc n cc, .slice pe m ce]
theorem ers_tab {rows : List ERow} {i : Nat} {q : ERow} (h : Sat w₀ (ersH rows * G) w) (hq : rows[i]? = some q) : Sat w₀ (tab T_int 1 fI q.p q.l.length q.c q.l) w := by
  have h1 := h.left
  rw [ersH_pull hq] at h1
  exact h1.left
theorem SameGraph_ok {pc pe pc' pe' : Option Addr} {cc ce cc' ce' : Nat} {cs : List Int} {rows rows' : List ERow}
    (h : Sat w₀ (GrH pc cc pe ce cs rows * (GrH pc' cc' pe' ce' cs rows' * F)) w) (hr : rows.map (·.l) = rows'.map (·.l)) (hl : rows.length = cs.length) (h1 : cs.length ≤ 300) (h2 : ∀ q ∈ rows, q.l.length ≤ 3000) :
    call Try.prog fn_tenonref11_SameGraph #[.agg (grA pc cs.length cc pe rows.length ce), .agg (grA pc' cs.length cc' pe' rows'.length ce')] w fun v w' => v = .bool true ∧ Sat w₀ (GrH pc cc pe ce cs rows * (GrH pc' cc' pe' ce' cs rows' * F)) w' := by
  apply tenonref11_SameGraph_call
  unfold tenonref11_SameGraph
  have hl' : rows'.length = cs.length := by
    have := congrArg List.length hr
    rw [List.length_map, List.length_map] at this
    omega
  refine new_ok h fun k1 w1 h3 => new_ok h3 fun k2 w2 h4 => ?_
  obtain ⟨X, hX⟩ : ∃ X : HP, X = tab 27 1 fU32 pc cs.length cc cs * (tab 43 1 esF pe rows.length ce rows * (ersH rows * (tab 27 1 fU32 pc' cs.length cc' cs * (tab 43 1 esF pe' rows'.length ce' rows' * (ersH rows' * F))))) := ⟨_, rfl⟩
  have hXe : GrH pc cc pe ce cs rows * (GrH pc' cc' pe' ce' cs rows' * F) = X := by rw [hX, GrH, GrH]; ac_rfl
  rw [hXe] at h4 ⊢
  have h5 : Sat w₀ (blk k1 (grA pc cs.length cc pe rows.length ce) 61 * (blk k2 (grA pc' cs.length cc' pe' rows'.length ce') 61 * X)) w2 := h4.perm (by ac_rfl)
  clear h h3 h4
  refine ldS_ok (cell_blk h5 (i := 0) rfl) <| ldS_ok (cell_blk h5.right (i := 0) rfl) <| br_false (by simp) <| ldS_ok (cell_blk h5 (i := 1) rfl) <| ldS_ok (cell_blk h5.right (i := 1) rfl) <| br_false (by simp [hl, hl']) ?_
  refine ⟨fun n w m => 0 ≤ n ∧ n ≤ cs.length ∧ m = cs.length - n.toNat ∧ Sat w₀ (blk k1 (grA pc cs.length cc pe rows.length ce) 61 * (blk k2 (grA pc' cs.length cc' pe' rows'.length ce') 61 * X)) w, ⟨_, by decide, by omega, rfl, h5⟩, ?_⟩
  clear h5
  rintro u n w3 m ⟨n0, nl, rfl, h6⟩
  refine ldS_ok (cell_blk h6 (i := 0) rfl) <| br_dec (fun hlt => ?_) (fun _ => ⟨rfl, h6.right.right⟩)
  have hi : n.toNat < cs.length := by omega
  obtain ⟨x, hx⟩ : ∃ x, cs[n.toNat]? = some x := ⟨_, List.getElem?_eq_getElem hi⟩
  obtain ⟨q, hq⟩ : ∃ q, rows[n.toNat]? = some q := ⟨_, List.getElem?_eq_getElem (by omega)⟩
  obtain ⟨q', hq'⟩ : ∃ q', rows'[n.toNat]? = some q' := ⟨_, List.getElem?_eq_getElem (by omega)⟩
  have hql : q.l = q'.l := by
    have h1 : (rows.map (·.l))[n.toNat]? = some q.l := by rw [List.getElem?_map, hq]; rfl
    rw [hr, List.getElem?_map, hq'] at h1
    exact (Option.some.inj h1).symm
  have hq3 := h2 q (List.mem_of_getElem? hq)
  have op : ∀ {w : World}, Sat w₀ (blk k1 (grA pc cs.length cc pe rows.length ce) 61 * (blk k2 (grA pc' cs.length cc' pe' rows'.length ce') 61 * X)) w → Sat w₀ (tab 27 1 fU32 pc cs.length cc cs * (tab 43 1 esF pe rows.length ce rows * (ersH rows * (tab 27 1 fU32 pc' cs.length cc' cs * (tab 43 1 esF pe' rows'.length ce' rows' * (ersH rows' * F)))))) w := fun h => by have := h.right.right; rwa [hX] at this
  have h6 := h6.drew
  have h7 := op h6
  have ce1 : ∀ {w : World} {g : Nat}, Sat w₀ (tab 43 1 esF pe rows.length ce rows) w → pe = some ⟨g, 0, none⟩ → w.cell? (⟨g, n.toNat * 1, none⟩ : Addr) = some (.slice q.p q.l.length q.c) := fun h hg => by have := tab_cell esF_len h hg hq (j := 0) (by decide) rfl; rwa [Sp.add_zero] at this
  have ce2 : ∀ {w : World} {g : Nat}, Sat w₀ (tab 43 1 esF pe' rows'.length ce' rows') w → pe' = some ⟨g, 0, none⟩ → w.cell? (⟨g, n.toNat * 1, none⟩ : Addr) = some (.slice q'.p q.l.length q'.c) := fun h hg => by have := tab_cell esF_len h hg hq' (j := 0) (by decide) rfl; rw [Sp.add_zero] at this; rw [hql]; exact this
  refine ldS_ok (cell_blk h6 (i := 0) rfl) <| tab_idx fU32_len h7.left (by decide) n0 hx fun g hg => ldI_ok (n := x) (by have := tab_cell fU32_len h7.left hg hx (j := 0) (by decide) rfl; rwa [Sp.add_zero] at this) <| ldS_ok (cell_blk h6.right (i := 0) rfl) <| tab_idx fU32_len h7.right.right.right.left (by decide) n0 hx fun g hg => ldI_ok (n := x) (by have := tab_cell fU32_len h7.right.right.right.left hg hx (j := 0) (by decide) rfl; rwa [Sp.add_zero] at this) <| br_false (by simp) ?_
  refine ldS_ok (cell_blk h6 (i := 1) rfl) <| tab_idx esF_len h7.right.left (by decide) n0 hq fun g hg => ldS_ok (ce1 h7.right.left hg) <| ldS_ok (cell_blk h6.right (i := 1) rfl) <| tab_idx esF_len h7.right.right.right.right.left (by decide) n0 hq' fun g hg => ldS_ok (ce2 h7.right.right.right.right.left hg) <| br_false (by simp) ?_
  refine ⟨fun j w m => 0 ≤ j ∧ j ≤ q.l.length ∧ m = q.l.length - j.toNat ∧ Sat w₀ (blk k1 (grA pc cs.length cc pe rows.length ce) 61 * (blk k2 (grA pc' cs.length cc' pe' rows'.length ce') 61 * X)) w, ⟨_, by decide, by omega, rfl, h6⟩, ?_⟩
  clear h6 h7
  rintro u j w4 m ⟨j0, jl, rfl, h8⟩
  have h9 := op h8
  refine ldS_ok (cell_blk h8 (i := 1) rfl) <| tab_idx esF_len h9.right.left (by decide) n0 hq fun g hg => ldS_ok (ce1 h9.right.left hg) <| br_dec (fun hjlt => ?_) (fun _ => arith_i64 (by omega) (by omega) ⟨_, by omega, by omega, by omega, rfl, h8⟩)
  have hj : j.toNat < q.l.length := by omega
  obtain ⟨y, hy⟩ : ∃ y, q.l[j.toNat]? = some y := ⟨_, List.getElem?_eq_getElem hj⟩
  have h8 := h8.drew
  have h9 := op h8
  have t1 := ers_tab h9.right.right hq
  have t2 := ers_tab h9.right.right.right.right.right hq'
  rw [← hql] at t2
  refine ldS_ok (cell_blk h8 (i := 1) rfl) <| tab_idx esF_len h9.right.left (by decide) n0 hq fun g hg => ldS_ok (ce1 h9.right.left hg) <| tab_idx fI_len t1 (by decide) j0 hy fun g hg => ldI_ok (n := y) (by have := tab_cell fI_len t1 hg hy (j := 0) (by decide) rfl; rwa [Sp.add_zero] at this) <| ?_
  exact ldS_ok (cell_blk h8.right (i := 1) rfl) <| tab_idx esF_len h9.right.right.right.right.left (by decide) n0 hq' fun g hg => ldS_ok (ce2 h9.right.right.right.right.left hg) <| tab_idx fI_len t2 (by decide) j0 hy fun g hg => ldI_ok (n := y) (by have := tab_cell fI_len t2 hg hy (j := 0) (by decide) rfl; rwa [Sp.add_zero] at this) <| br_false (by simp) <| arith_i64 (by omega) (by omega) ⟨_, by omega, by omega, by omega, rfl, h8⟩
theorem HeapTells_walk {W : World} {x0 x2 : Int} {p : Option Addr} {l c : Nat} {xs : List ActD} (hx0 : I64 x0) (hx2 : I64 x2) (hx : Acts W p l xs) (hl : l ≤ 9223372036854775807) :
    call Try.prog fn_tenonlaw11_HeapTells #[.int .i64 x0, .slice p l c, .int .i64 x2] W fun v w' => v = .bool true ∧ Below W.heap.size W w' := by
  apply tenonlaw11_HeapTells_call
  unfold tenonlaw11_HeapTells
  obtain ⟨k0, hk0, k00, k01, _⟩ := tenonref01_Pick_ok x0 30 hx0.1 hx0.2 (by omega) (by omega)
  have k01 := k01 (by omega)
  refine call_pure hk0 <| asI_ok <| arith_i64 (by omega) (by omega) <| call_mono (begun_ok (top := 5) (most := 1 + k0) (Sat.start W) (by omega) (by omega) (by decide)) ?_
  rintro _ w3 ⟨b, hb, a, rb, r, rfl, h3⟩
  refine asP_ok ⟨fun w => ∃ S gs, HInv 5 S ∧ GOk gs ∧ gs.length ≤ 60 ∧ Sat W (HPr b hb a rb r 5 S gs * old W) w, ?_, ?_⟩
  · refine ⟨fun n w m => ∃ S gs, 0 ≤ n ∧ n ≤ 60 ∧ m = (60 - n).toNat ∧ HInv 5 S ∧ GOk gs ∧ (gs.length : Int) ≤ n ∧ Sat W (HPr b hb a rb r 5 S gs * old W) w, ⟨_, s0 (1 + k0), [], by decide, by decide, rfl, s0_inv (by omega) (by omega) (by decide) (by decide), (fun g hg => by cases hg), by simp, h3⟩, ?_⟩
    rintro u n w4 m ⟨S, gs, n0, n1, rfl, hs, hg, hgl, h4⟩
    refine br_dec (fun hlt => br_dec (fun hlt2 => ?_) (fun _ => ⟨S, gs, hs, hg, by omega, h4⟩)) (fun _ => ⟨S, gs, hs, hg, by omega, h4⟩)
    refine hx.idx h4.right n0 (by omega) fun ad x hxx rk ra rh rx rr ld => ld <| call_mono (Pair_do_ok h4 hs hg (by omega) rk ra rh rx rr) ?_
    rintro _ w6 ⟨rfl, S', gs', q1, q2, q3, q4, h5⟩
    refine asB_ok <| call_mono (Pair_alike_ok h5 q1 q3 (by omega)) ?_
    rintro _ w7 ⟨rfl, h6⟩
    refine asB_ok <| br_false rfl ?_
    obtain ⟨P, Q, pg, cg, h7⟩ := HPr.open_ h6
    have hcc := q1.toHBase.cnt
    refine nn_ok <| ldP_ok (cell_blk h7 (i := 0) rfl) <| call_mono (heap_Graph_ok (h7.perm (B := HH hb a 5 P S' * (blk b (prA hb rb pg gs'.length cg) T_tenonlaw11_Pair * (tab T_uint64 1 fU64 pg gs'.length cg gs' * (RH rb r 5 Q S' * old W)))) (by ac_rfl)) q1) ?_
    rintro _ w8 ⟨pc, cc, pe, ce, pw, cw, rows, hrows, rfl, h8⟩
    have hwl := whs_len q1.ok
    refine ⟨_, _, _, _, rfl, new_ok h8 fun k23 w9 h9 => stA_ok h9 rfl rfl (by simp [Value.oneCell']) fun w10 h10 => ?_⟩
    have h11 : Sat W (blk k23 (grA pc (whs S').length cc pe (whs S').length ce) 61 * (GrH pc cc pe ce ((whs S').map (cnO S')) rows * (tab T_uint64 1 fU64 pw (whs S').length cw (whs S') * (HH hb a 5 P S' * (blk b (prA hb rb pg gs'.length cg) T_tenonlaw11_Pair * (tab T_uint64 1 fU64 pg gs'.length cg gs' * (RH rb r 5 Q S' * old W))))))) w10 := h10
    refine nn_ok <| ldP_ok (cell_blk h11.right.right.right.right (i := 1) rfl) <| call_mono (rh_Graph_ok (h11.perm (B := RH rb r 5 Q S' * (blk k23 (grA pc (whs S').length cc pe (whs S').length ce) 61 * (GrH pc cc pe ce ((whs S').map (cnO S')) rows * (tab T_uint64 1 fU64 pw (whs S').length cw (whs S') * (HH hb a 5 P S' * (blk b (prA hb rb pg gs'.length cg) T_tenonlaw11_Pair * (tab T_uint64 1 fU64 pg gs'.length cg gs' * old W))))))) (by ac_rfl)) q1) ?_
    rintro _ w11 ⟨pc', cc', pe', ce', pw', cw', rows', hrows', rfl, h12⟩
    refine ⟨_, _, _, _, rfl, new_ok h12 fun k29 w12 h13 => stA_ok h13 rfl rfl (by simp [Value.oneCell']) fun w13 h14 => ?_⟩
    have h15 : Sat W (blk k29 (grA pc' (whs S').length cc' pe' (whs S').length ce') 61 * (GrH pc' cc' pe' ce' ((whs S').map (cnO S')) rows' * (tab T_uint64 1 fU64 pw' (whs S').length cw' (whs S') * (RH rb r 5 Q S' * (blk k23 (grA pc (whs S').length cc pe (whs S').length ce) 61 * (GrH pc cc pe ce ((whs S').map (cnO S')) rows * (tab T_uint64 1 fU64 pw (whs S').length cw (whs S') * (HH hb a 5 P S' * (blk b (prA hb rb pg gs'.length cg) T_tenonlaw11_Pair * (tab T_uint64 1 fU64 pg gs'.length cg gs' * old W)))))))))) w13 := h14
    have hl1 : rows.length = (whs S').length := by have := congrArg List.length hrows; simpa using this
    have hl2 : rows'.length = (whs S').length := by have := congrArg List.length hrows'; simpa using this
    have hl3 : ((whs S').map (cnO S')).length = (whs S').length := by simp
    have hsg := SameGraph_ok (h15.perm (B := GrH pc cc pe ce ((whs S').map (cnO S')) rows * (GrH pc' cc' pe' ce' ((whs S').map (cnO S')) rows' * (tab T_uint64 1 fU64 pw (whs S').length cw (whs S') * (tab T_uint64 1 fU64 pw' (whs S').length cw' (whs S') * (blk b (prA hb rb pg gs'.length cg) T_tenonlaw11_Pair * (tab T_uint64 1 fU64 pg gs'.length cg gs' * (HH hb a 5 P S' * (RH rb r 5 Q S' * (blk k29 (grA pc' (whs S').length cc' pe' (whs S').length ce') 61 * (blk k23 (grA pc (whs S').length cc pe (whs S').length ce) 61 * old W)))))))))) (by ac_rfl)) (hrows.trans hrows'.symm) (by rw [hl1, hl3]) (by rw [hl3]; omega) (fun q hq => by
      have h1 : q.l ∈ rows.map (·.l) := List.mem_map.2 ⟨q, hq, rfl⟩
      rw [hrows] at h1
      obtain ⟨y, _, e⟩ := List.mem_map.1 h1
      have := edgs_len q1 (whs S') (h := y)
      rw [← e]
      omega)
    rw [hl1, hl2, hl3] at hsg
    refine ldA_blk0 h15.right.right.right.right rfl <| ldA_blk0 h15 rfl <| call_mono hsg ?_
    rintro _ w14 ⟨rfl, h16⟩
    refine asB_ok <| br_false rfl <| call_reads (SameLongs_ok (xs := whs S') (ys := whs S') h16.right.right.left.rd h16.right.right.right.left.rd (by omega)) fun w15 hsm => asB_ok <| br_false (by simp) <| arith_i64 (by omega) (by omega) ⟨(60 - (n + 1)).toNat, by omega, S', gs', by omega, by omega, rfl, q1, q3, by omega, ?_⟩
    have h17 := (h16.same hsm).right.right.right.right
    exact HPr.shut (p := pg) (c := cg) (l := gs'.length) (F := old W) (h17.perm (B := (blk k29 (grA pc' (whs S').length cc' pe' (whs S').length ce') 61 * blk k23 (grA pc (whs S').length cc pe (whs S').length ce) 61) * (blk b (prA hb rb pg gs'.length cg) T_tenonlaw11_Pair * (tab T_uint64 1 fU64 pg gs'.length cg gs' * (HH hb a 5 P S' * (RH rb r 5 Q S' * old W))))) (by ac_rfl)).right rfl
  rintro u w14 ⟨S, gs, hs, hg, hgl, h4⟩
  obtain ⟨P, Q, pg, cg, h5⟩ := HPr.open_ h4
  have hcc := hs.toHBase.cnt
  have hal := all_cnt hs.ok
  have hm := hs.most
  refine nn_ok <| ldP_ok (cell_blk h5 (i := 1) rfl) <| nn_ok <| ldP_ok (RH.c1 h5.right.right.right) <| call_mono (ref_All2_ok (h5.perm (B := RH rb r 5 Q S * (blk b (prA hb rb pg gs.length cg) T_tenonlaw11_Pair * (tab T_uint64 1 fU64 pg gs.length cg gs * (HH hb a 5 P S * old W)))) (by ac_rfl)) hs.ok) ?_
  rintro _ w15 ⟨p44, c44, rfl, h6⟩
  obtain ⟨k, hk, kk0, kk1, _⟩ := tenonref01_Pick_ok x2 (((allFrom 0 S.sp).length : Int) + 1) hx2.1 hx2.2 (by omega) (by omega)
  have kk1 := kk1 (by omega)
  have h7 := h6.drew
  refine asS_ok <| arith_i64 (by omega) (by omega) <| call_pure hk <| asI_ok <| nn_ok <| ldP_ok (cell_blk h7.right.right (i := 0) rfl) <| slc_own (h7 : Sat W (own T_uint64 1 p44 (allFrom 0 S.sp).length c44 ((allFrom 0 S.sp).flatMap fU64) * _) w15.drew) kk0 (by omega) <| call_mono (heap_all_ok (most := k) (h7.perm (B := HH hb a 5 P S * (tab T_uint64 1 fU64 p44 (allFrom 0 S.sp).length c44 (allFrom 0 S.sp) * (RH rb r 5 Q S * (blk b (prA hb rb pg gs.length cg) T_tenonlaw11_Pair * (tab T_uint64 1 fU64 pg gs.length cg gs * old W))))) (by ac_rfl)) hs.ok (by omega)) ?_
  rintro _ w17 ⟨p52, m, c52, rfl, hmm, h8⟩
  have hmk : m = k.toNat := by rw [hmm]; omega
  subst hmk
  refine asS_ok <| call_reads (SameLongs_ok (xs := (allFrom 0 S.sp).take k.toNat) (ys := (allFrom 0 S.sp).take k.toNat) h8.left.rd (tab_front fU64_len (by decide) h8.right.right.left (by omega)) (by omega)) fun w18 hsm => asB_ok <| br_true (by simp) <| call_mono (tenonlaw11_awake_ok ((h8.same hsm).perm (B := (tab T_uint64 1 fU64 p52 k.toNat c52 ((allFrom 0 S.sp).take k.toNat) * (tab T_uint64 1 fU64 p44 (allFrom 0 S.sp).length c44 (allFrom 0 S.sp) * (HH hb a 5 P S * (RH rb r 5 Q S * (blk b (prA hb rb pg gs.length cg) T_tenonlaw11_Pair * tab T_uint64 1 fU64 pg gs.length cg gs))))) * old W) (by ac_rfl))) ?_
  rintro _ w19 ⟨rfl, h9⟩
  exact asB_ok ⟨rfl, h9.right.below'⟩
theorem HeapTells_row {W : World} {x0 x2 : Int} {v : Value} (h0 : -9223372036854775808 ≤ x0 ∧ x0 ≤ 9223372036854775807) (h : ∃ p l c xs, v = .slice p l c ∧ l ≤ 9223372036854775807 ∧ Acts W p l xs) (h2 : -9223372036854775808 ≤ x2 ∧ x2 ≤ 9223372036854775807) : call Try.prog fn_tenonlaw11_HeapTells #[.int .i64 x0, v, .int .i64 x2] W fun v w' => v = .bool true ∧ Below W.heap.size W w' := by
  obtain ⟨p, l, c, xs, rfl, hl, hx⟩ := h
  exact HeapTells_walk h0 h2 hx hl
end
end Go.Proofs.Ytgchemgnmijpdaa
