/- VariantWalks: the row's walk. No conditions. -/
import Derived.Test.YtmecgkeplkchcaaV18
set_option linter.unusedVariables false
set_option linter.unusedSimpArgs false
set_option linter.unusedSectionVars false
set_option maxRecDepth 100000
namespace Go.Proofs.Ytmecgkeplkchcaa
open Go.Sp Go.RowKit

theorem pre_in {x : VT} : VIn x → ∀ (d : Int) (q : Int × VT), q ∈ pre d x → VIn q.2 := by
  induction x using VT.ind with
  | h x ih =>
    intro hI d q hq
    rw [pre_eq] at hq
    rcases List.mem_cons.1 hq with rfl | hq
    · exact hI
    · obtain ⟨y, hy, hq⟩ := List.mem_flatMap.1 hq
      exact ih y hy (hI.part hy) _ _ hq
theorem pre_gives {F : HP} {x : VT} : VGives F x → ∀ (d : Int) (q : Int × VT), q ∈ pre d x → VGives F q.2 := by
  induction x using VT.ind with
  | h x ih =>
    intro hI d q hq
    rw [pre_eq] at hq
    rcases List.mem_cons.1 hq with rfl | hq
    · exact hI
    · obtain ⟨y, hy, hq⟩ := List.mem_flatMap.1 hq
      exact ih y hy (hI.part hy) _ _ hq
theorem VariantWalks_row {W : World} {v : Value} {a : Int} {m : Nat} (h : VArgB m W v) (hm : m ≤ 68719476736) (ha : IntKind.min .i64 ≤ a ∧ a ≤ IntKind.max .i64) : call Try.prog fn_tenonlaw06_VariantWalks #[v, .int .i64 a] W fun v w' => v = .bool true ∧ Below W.heap.size W w' := by
  obtain ⟨x, rfl, hO, hI, hT⟩ := h
  have hT : tw x ≤ 68719476736 := by omega
  simp [IntKind.min, IntKind.max, IntKind.signed, IntKind.bits] at ha
  have hV : VGives (old W) x := VGives.old hO
  have h0 : Sat W (old W) W := Sat.start W
  apply tenonlaw06_VariantWalks_call
  unfold tenonlaw06_VariantWalks
  refine new_ok h0 fun k1 w1 h1 => ?_
  have h1 : Sat W (blk k1 (va x) 24 * old W) w1 := h1
  have done : ∀ {w : World} {A : HP}, Sat W (A * old W) w → call Try.prog 11 #[] w fun v w' => asB v fun b => (Value.bool b) = .bool true ∧ Below W.heap.size W w' := by
    intro w A h
    refine call_mono (tenonlaw06_awake_ok h) ?_
    rintro _ w4 ⟨rfl, h4⟩
    exact asB_ok ⟨rfl, h4.right.below'⟩
  refine ldV4 h1 <| call_mono (ref_Walk_ok x 0 _ w1 hI (VGives.right hV) hT h1) ?_
  rintro _ w2 ⟨p, c, rfl, h2⟩
  have hn := pre_len x 0
  obtain ⟨ps, hps⟩ : ∃ ps, ps = pre 0 x := ⟨_, rfl⟩
  rw [← hps] at h2 hn ⊢
  refine asS_ok <| br_dec (fun hgt => done (h2.perm (B := (tab T_tenonref06_Deep 5 dq p ps.length c ps * blk k1 (va x) 24) * old W) (by ac_rfl))) (fun hle => arith_i64 (by omega) (by omega) ?_)
  obtain ⟨k, hk, k0, kl, _⟩ := tenonref01_Pick_ok a ((ps.length : Int) + 1) (by omega) (by omega) (by omega) (by omega)
  have kl := kl (by omega)
  refine call_pure hk <| asI_ok ?_
  have h3 := (h2.perm (B := blk k1 (va x) 24 * (tab T_tenonref06_Deep 5 dq p ps.length c ps * old W)) (by ac_rfl)).drew
  refine ldV4 h3 <| ldV4 h3 <| call_mono (walked_ok h3 hI (VGives.right (VGives.right hV)) hT) ?_
  rintro _ w5 ⟨p2, l2, c2, rfl, e2, h5⟩
  rw [← hps] at e2 h5
  obtain rfl : l2 = ps.length := by rw [e2]; omega
  rw [List.take_length] at h5
  refine asS_ok <| keepS_blk0 h5.p1 <| call_mono (walked_ok h5 hI (VGives.right (VGives.right (VGives.right hV))) hT) ?_
  rintro _ w6 ⟨p3, l3, c3, rfl, e3, h6⟩
  rw [← hps] at e3 h6
  have e3 : (l3 : Int) = k := by omega
  refine asS_ok <| br_false (by simp) <| br_false (by simp [e3]) ?_
  let B := tab T_tenonref06_Deep 5 dq p3 l3 c3 (ps.take l3) * (tab T_tenonref06_Deep 5 dq p2 ps.length c2 ps * (blk k1 (va x) 24 * (tab T_tenonref06_Deep 5 dq p ps.length c ps * old W)))
  have vB : VGives B x := VGives.right (VGives.right (VGives.right (VGives.right hV)))
  refine ⟨fun pr lr cr n w m => 0 ≤ n ∧ n ≤ ps.length ∧ m = ps.length - n.toNat ∧ lr = (refsOf (ps.take n.toNat)).length ∧ Sat W (tab T_uint64 1 fU64 pr lr cr (refsOf (ps.take n.toNat)) * B) w, ⟨_, by omega, by omega, rfl, rfl, tab_nil _ _ _ h6⟩, ?_⟩
  rintro u pr lr cr n w7 m' ⟨n0, nl, rfl, rfl, h7⟩
  refine br_dec (fun hlt => ?_) (fun hge => ?_)
  · have hi : n.toNat < ps.length := by omega
    obtain ⟨y, hy⟩ : ∃ y, ps[n.toNat]? = some y := ⟨_, List.getElem?_eq_getElem hi⟩
    have hym : y ∈ pre 0 x := hps ▸ List.mem_of_getElem? hy
    have yI := pre_in hI 0 y hym
    have yG := pre_gives vB 0 y hym
    have st2 : ∀ {w}, Sat W (tab T_uint64 1 fU64 pr (refsOf (ps.take n.toNat)).length cr (refsOf (ps.take n.toNat)) * B) w → Sat W (tab T_tenonref06_Deep 5 dq p2 ps.length c2 ps) w := fun h => h.right.right.left
    have st4 : ∀ {w}, Sat W (tab T_uint64 1 fU64 pr (refsOf (ps.take n.toNat)).length cr (refsOf (ps.take n.toNat)) * B) w → Sat W (tab T_tenonref06_Deep 5 dq p ps.length c ps) w := fun h => h.right.right.right.right.left
    have st3 : ∀ {w}, Sat W (tab T_uint64 1 fU64 pr (refsOf (ps.take n.toNat)).length cr (refsOf (ps.take n.toNat)) * B) w → Sat W (tab T_tenonref06_Deep 5 dq p3 l3 c3 (ps.take l3)) w := fun h => h.right.left
    have step : ∀ {w}, Sat W (tab T_uint64 1 fU64 pr (refsOf (ps.take n.toNat)).length cr (refsOf (ps.take n.toNat)) * B) w → Sat W (tab T_uint64 1 fU64 pr (refsOf (ps.take n.toNat)).length cr (refsOf (ps.take n.toNat)) * B) w.drew := fun h => h.drew
    refine ⟨fun w => Sat W (tab T_uint64 1 fU64 pr (refsOf (ps.take n.toNat)).length cr (refsOf (ps.take n.toNat)) * B) w, ?_, ?_⟩
    · refine tab_idx dq_len (st2 h7) (by decide) n0 hy fun g2 hg2 => ldI_ok (n := y.1) (tab_cell dq_len (st2 h7.drew) hg2 hy (by decide) rfl) <| tab_idx dq_len (st4 h7) (by decide) n0 hy fun g4 hg4 => ldI_ok (n := y.1) (tab_cell dq_len (st4 h7.drew) hg4 hy (by decide) rfl) <| br_false (by simp) ?_
      refine tab_idx dq_len (st2 h7) (by decide) n0 hy fun g2 hg2 => tab_ldA dq_len (st2 h7.drew) hg2 hy (by decide) (vs := vc y.2) rfl <| tab_idx dq_len (st4 h7) (by decide) n0 hy fun g4 hg4 => tab_ldA dq_len (st4 h7.drew) hg4 hy (by decide) (vs := vc y.2) rfl <| call_mono (ref_Same_ok y.2 y.2 _ _ yI (VGives.right yG) (VGives.right yG) h7.drew) ?_
      rintro _ w8 ⟨b, rfl, hb, h8⟩
      have : b = true := hb.2 rfl
      subst this
      refine asB_ok <| br_false rfl <| br_dec (fun hlt3 => ?_) (fun _ => h8)
      have hy3 : (ps.take l3)[n.toNat]? = some y := by rw [List.getElem?_take_of_lt (by omega)]; exact hy
      refine tab_idx dq_len (st3 h8) (by decide) n0 hy3 fun g2 hg2 => tab_ldA dq_len (st3 h8) hg2 hy3 (by decide) (vs := vc y.2) rfl <| tab_idx dq_len (st4 h8) (by decide) n0 hy fun g4 hg4 => tab_ldA dq_len (st4 h8) hg4 hy (by decide) (vs := vc y.2) rfl <| call_mono (ref_Same_ok y.2 y.2 _ _ yI (VGives.right yG) (VGives.right yG) h8) ?_
      rintro _ w9 ⟨b, rfl, hb, h9⟩
      have : b = true := hb.2 rfl
      subst this
      exact asB_ok <| br_false rfl h9
    rintro u w10 h10
    have e2 : refsOf (ps.take (n.toNat + 1)) = refsOf (ps.take n.toNat) ++ if y.2.kd = 5 then [un y.2.n] else [] := by rw [List.take_add_one, hy]; exact refsOf_snoc _ _
    have hrl : (refsOf (ps.take n.toNat)).length ≤ n.toNat := Nat.le_trans (refsOf_len _) (by rw [List.length_take]; omega)
    have en : (n + 1).toNat = n.toNat + 1 := by omega
    refine tab_idx dq_len (st4 h10) (by decide) n0 hy fun g4 hg4 => ldI_ok (n := y.2.kd) (by rw [Sp.add_add]; exact tab_cell dq_len (st4 h10) hg4 hy (by decide) rfl) <| br_split (fun k5 => ?_) (fun k5 => ?_)
    · have k5 : y.2.kd = 5 := by simpa using k5
      rw [if_pos k5] at e2
      refine tab_idx dq_len (st4 h10) (by decide) n0 hy fun g4 hg4 => ldI_ok (n := y.2.n) (by rw [Sp.add_add]; exact tab_cell dq_len (st4 h10) hg4 hy (by decide) rfl) <| arith_un <| new_ok h10 fun k45 w11 h11 => ?_
      refine tab_app u64sTy fU64_len (by decide) fU64_one (x := un y.2.n) h11 rfl (by simp only [maxLen]; omega) (by omega) fun p' c' w12 h12 => ?_
      refine arith_i64 (by omega) (by omega) ⟨_, by omega, by omega, by omega, rfl, ?_, ?_⟩
      · rw [en, e2, List.length_append]; rfl
      · rw [en, e2]; exact h12
    · have k5 : y.2.kd ≠ 5 := by simpa using k5
      rw [if_neg k5, List.append_nil] at e2
      refine arith_i64 (by omega) (by omega) ⟨_, by omega, by omega, by omega, rfl, ?_, ?_⟩
      · rw [en, e2]
      · rw [en, e2]; exact h10
  · rw [List.take_of_length_le (by omega)] at h7 ⊢
    have hrl : (refsOf ps).length ≤ ps.length := refsOf_len _
    refine ldV4 h7.right.right.right <| call_mono (variant_Refs_ok h7 hI (VGives.right vB) hT) ?_
    rintro _ w13 ⟨p13, c13, rfl, h13⟩
    rw [← hps] at h13 ⊢
    have r1 : Rd w13 1 p13 (refsOf ps).length ((refsOf ps).flatMap fU64) := Sat.rd (t := T_uint64) (c := c13) (show Sat W (own T_uint64 1 p13 _ c13 _) w13 from h13.left)
    have r2 : Rd w13 1 pr (refsOf ps).length ((refsOf ps).flatMap fU64) := Sat.rd (t := T_uint64) (c := cr) (show Sat W (own T_uint64 1 pr _ cr _) w13 from h13.right.left)
    refine asS_ok <| call_reads (SameLongs_ok r1 r2 (by omega)) fun w14 hs => asB_ok <| br_true (by simp) ?_
    exact done ((h13.same hs).perm (B := (tab T_uint64 1 fU64 p13 (refsOf ps).length c13 (refsOf ps) * (tab T_uint64 1 fU64 pr (refsOf ps).length cr (refsOf ps) * (tab T_tenonref06_Deep 5 dq p3 l3 c3 (ps.take l3) * (tab T_tenonref06_Deep 5 dq p2 ps.length c2 ps * (blk k1 (va x) 24 * tab T_tenonref06_Deep 5 dq p ps.length c ps))))) * old W) (by simp only [B]; ac_rfl))
end Go.Proofs.Ytmecgkeplkchcaa
