/- HeapPlays: a pair of heaps; what both answer. No conditions. -/
import Derived.Test.YtgchemgnmijpdaaHR4
import Derived.Test.YtgchemgnmijpdaaHAct
set_option linter.unusedVariables false
set_option linter.unusedSimpArgs false
set_option maxRecDepth 100000
namespace Go.Proofs.Ytgchemgnmijpdaa
open Go.Sp Go.RowKit

theorem arith_u64_any {e : Int} {K : Int → Prop} (hk : ∀ n : Int, 0 ≤ n → n ≤ 18446744073709551615 → K n) : arith .u64 e K := by
  unfold arith
  refine hk _ ?_ ?_ <;> simp [IntKind.wrap, IntKind.signed, IntKind.bits] <;> omega
theorem bit1 (x : Int) : bitw .and .i64 x 1 = 0 ∨ bitw .and .i64 x 1 = 1 := by
  have e : bitw .and .i64 x 1 = IntKind.i64.wrap ((BitVec.ofInt 64 x &&& BitVec.ofInt 64 1).toNat : Nat) := rfl
  have e1 : (BitVec.ofInt 64 x &&& BitVec.ofInt 64 1).toNat = (BitVec.ofInt 64 x).toNat % 2 := by
    rw [BitVec.toNat_and]
    have : (BitVec.ofInt 64 1).toNat = 1 := by decide
    rw [this, Nat.and_one_is_mod]
  rw [e, e1]
  have : (BitVec.ofInt 64 x).toNat % 2 = 0 ∨ (BitVec.ofInt 64 x).toNat % 2 = 1 := by omega
  rcases this with h | h <;> rw [h]
  · exact .inl (by decide)
  · exact .inr (by decide)
theorem quo5_ok {x : Int} {K : Int → Prop} (h0 : I64 x) (hk : ∀ n, I64 n → K n) : quo .i64 x 5 K := by
  refine ⟨by decide, ?_⟩
  have h1 : -9223372036854775808 ≤ x.tdiv 5 ∧ x.tdiv 5 ≤ 9223372036854775807 := by
    obtain ⟨a, b⟩ := h0
    rcases Int.le_total 0 x with hx | hx
    · rw [Int.tdiv_eq_ediv_of_nonneg hx]
      omega
    · have e : x.tdiv 5 = -((-x) / 5) := by rw [← Int.tdiv_eq_ediv_of_nonneg (by omega), Int.neg_tdiv, Int.neg_neg]
      rw [e]
      omega
  rw [wrap_in (by simpa [IntKind.min, IntKind.signed, IntKind.bits] using h1.1) (by simpa [IntKind.max, IntKind.signed, IntKind.bits] using h1.2)]
  exact hk _ h1
def GOk (gs : List Int) : Prop := ∀ g ∈ gs, 0 ≤ g ∧ g ≤ 18446744073709551615
def prA (hb rb : Nat) (p : Option Addr) (l c : Nat) : Array Value := #[.pointer (some ⟨hb, 0, none⟩), .pointer (some ⟨rb, 0, none⟩), .slice p l c]
def HPr (b hb a rb r : Nat) (top : Int) (S : HS) (gs : List Int) : HP := ex fun P => ex fun Q => ex fun p => ex fun c =>
  blk b (prA hb rb p gs.length c) T_tenonlaw11_Pair * (tab T_uint64 1 fU64 p gs.length c gs * (HH hb a top P S * RH rb r top Q S))
/-- What a call that lets go answers, and leaves. -/
def Ans (q : Res) (S' : HS) (gn fo : List Int) : Prop := (q.1 ≠ 0 ∧ S' = q.2.1 ∧ gn = [] ∧ fo = []) ∨ (q.1 = 0 ∧ Fall q.2.1 q.2.2.1 [] q.2.2.2 (S', gn, fo))
theorem Ans.one {q : Res} {S S' : HS} {gn gn' fo fo' : List Int} (h : Ans q S gn fo) (h' : Ans q S' gn' fo') : S = S' ∧ gn = gn' ∧ fo = fo' := by
  rcases h with ⟨h1, rfl, rfl, rfl⟩ | ⟨h1, h2⟩ <;> rcases h' with ⟨k1, rfl, rfl, rfl⟩ | ⟨k1, k2⟩
  · exact ⟨rfl, rfl, rfl⟩
  · exact absurd k1 h1
  · exact absurd h1 k1
  · have := h2.one k2
    cases this
    exact ⟨rfl, rfl, rfl⟩
section
variable {S : HS} {top : Int}
theorem dnM_no {h : Int} (he : (dnM S h).1 ≠ 0) : (dnM S h).2.1 = S := by
  unfold dnM at he ⊢
  split at he
  · rfl
  · exact absurd rfl he
theorem putM_no {h slot : Int} {x : Int × Int} (he : (putM top S h slot x).1 ≠ 0) : (putM top S h slot x).2.1 = S := by
  unfold putM at he ⊢
  split at he
  · rfl
  · split at he
    · rename_i h1
      rw [if_pos h1]
    · rename_i h1
      rw [if_neg h1]
      split at he
      · rename_i h2
        rw [if_pos h2]
        split at he
        · rename_i h3
          rw [if_pos h3]
        · exact absurd rfl he
      · exact absurd rfl he
theorem remM_no {l : List Int} (he : (remM S l).1 ≠ 0) : (remM S l).2.1 = S := by
  unfold remM at he ⊢
  split at he
  · rename_i h1
    rw [if_pos h1]
  · rename_i h1
    rw [if_neg h1]
    split at he
    · rename_i h2
      rw [if_pos h2]
    · exact absurd rfl he
theorem mkM_pay (hs : HInv top S) {slots outer : Int} (he : (mkM S slots outer).2.2 = 0) : ∃ o, pay (mkM S slots outer).1 (mkM S slots outer).2.1 = some o := by
  unfold mkM at he ⊢
  split at he
  · cases he
  · rename_i h1
    rw [if_neg h1]
    split at he
    · rename_i h2
      rw [if_pos h2]
      exact ⟨_, by rw [pay_put hs.ok he, if_pos rfl]⟩
    · rename_i h2
      rw [if_neg h2]
      cases hp : pay S outer with
      | none => rw [hp] at he; cases he
      | some o =>
        rw [hp] at he
        dsimp only at he ⊢
        split at he
        · cases he
        · rename_i h3
          rw [if_neg h3]
          split at he
          · rename_i h4
            rw [if_pos h4]
            have hfr := pay_fresh hs.ok h4
            have hne : outer ≠ (put S (newO slots.toNat outer)).2.1 := fun e => by rw [e, hfr] at hp; cases hp
            have hpw : pay (put S (newO slots.toNat outer)).1 outer = some o := by rw [pay_put hs.ok h4, if_neg hne]; exact hp
            refine ⟨newO slots.toNat outer, ?_⟩
            dsimp only
            rw [pay_up (hs.ok.put _) hpw, if_neg (Ne.symm hne), pay_put hs.ok h4, if_pos rfl]
          · cases he
end
section
variable {w₀ w : World} {F G : HP} {b hb a rb r : Nat} {top : Int} {P Q : PM} {S : HS} {gs : List Int}
theorem HPr.open_ (h : Sat w₀ (HPr b hb a rb r top S gs * F) w) : ∃ P Q p c, Sat w₀ (blk b (prA hb rb p gs.length c) T_tenonlaw11_Pair * (tab T_uint64 1 fU64 p gs.length c gs * (HH hb a top P S * (RH rb r top Q S * F)))) w := by
  obtain ⟨P, h⟩ := Sat.ex h
  obtain ⟨Q, h⟩ := Sat.ex h
  obtain ⟨p, h⟩ := Sat.ex h
  obtain ⟨c, h⟩ := Sat.ex h
  exact ⟨P, Q, p, c, h.perm (by ac_rfl)⟩
theorem HPr.shut {p : Option Addr} {l c : Nat} (h : Sat w₀ (blk b (prA hb rb p l c) T_tenonlaw11_Pair * (tab T_uint64 1 fU64 p l c gs * (HH hb a top P S * (RH rb r top Q S * F)))) w) (hl : l = gs.length) : Sat w₀ (HPr b hb a rb r top S gs * F) w := by
  subst hl
  exact Sat.to_ex P (Sat.to_ex Q (Sat.to_ex p (Sat.to_ex c (h.perm (by ac_rfl)))))
theorem given_ok {x : Int} (h : Sat w₀ (HPr b hb a rb r top S gs * F) w) (hg : GOk gs) (hl : gs.length ≤ 1000) (hx : I64 x) :
    call Try.prog fn_tenonlaw11_Pair_given #[.pointer (some ⟨b, 0, none⟩), .int .i64 x] w fun v w' => ∃ g, v = .int .u64 g ∧ 0 ≤ g ∧ g ≤ 18446744073709551615 ∧ (gs = [] → g = 0) ∧ (gs ≠ [] → g ∈ gs) ∧ Sat w₀ (HPr b hb a rb r top S gs * F) w' := by
  apply tenonlaw11_Pair_given_call
  unfold tenonlaw11_Pair_given
  obtain ⟨P, Q, p, c, h1⟩ := HPr.open_ h
  refine nn_ok <| ldS_ok (cell_blk h1 (i := 2) rfl) <| br_split (fun h0 => ⟨0, rfl, by decide, by decide, fun _ => rfl, fun hne => ?_, h⟩) (fun h0 => ?_)
  · have h0 : gs.length = 0 := by have : ((gs.length : Nat) : Int) = 0 := by simpa using h0
                                  omega
    exact absurd (List.eq_nil_of_length_eq_zero h0) hne
  · have h0 : gs.length ≠ 0 := by have : ¬ ((gs.length : Nat) : Int) = 0 := by simpa using h0
                                  omega
    have h1 := h1.drew
    obtain ⟨k2, hp2, hk20, hk21, _⟩ := tenonref01_Pick_ok x gs.length hx.1 hx.2 (by omega) (by omega)
    have hk21 := hk21 (by omega)
    obtain ⟨y, hy⟩ : ∃ y, gs[k2.toNat]? = some y := ⟨gs[k2.toNat]'(by omega), by simp⟩
    have hym := List.mem_of_getElem? hy
    refine nn_ok <| ldS_ok (cell_blk h1 (i := 2) rfl) <| nn_ok <| ldS_ok (cell_blk h1 (i := 2) rfl) <| call_pure hp2 <| asI_ok ⟨cell_blk h1 (i := 2) rfl, ?_⟩
    exact tab_idx fU64_len h1.right.left (by decide) hk20 hy fun g hg2 => ldI_ok (n := y) (by have := tab_cell fU64_len (j := 0) h1.right.left hg2 hy (by decide) rfl; rwa [Sp.add_zero] at this) ⟨y, rfl, (hg y hym).1, (hg y hym).2, (fun e => by rw [e] at hym; cases hym), fun _ => hym, HPr.shut h1 rfl⟩
theorem link_ok {x : ActD} (h : Sat w₀ (HPr b hb a rb r top S gs * F) w) (hg : GOk gs) (hl : gs.length ≤ 1000) (ra : I64 x.a) (rx : I64 x.x) (rr : 0 ≤ x.raw ∧ x.raw ≤ 18446744073709551615) :
    call Try.prog fn_tenonlaw11_Pair_link #[.pointer (some ⟨b, 0, none⟩), .agg (acA x)] w fun v w' => ∃ y, v = .agg (lnA y) ∧ LinkOk y ∧ Sat w₀ (HPr b hb a rb r top S gs * F) w' := by
  apply tenonlaw11_Pair_link_call
  unfold tenonlaw11_Pair_link
  refine new_ok h fun k1 w1 h1 => new_ok h1 fun k2 w2 h2 => ?_
  have h2 : Sat w₀ (blk k2 (lnA (0, 0)) 35 * (blk k1 (acA x) 47 * (HPr b hb a rb r top S gs * F))) w2 := h2
  obtain ⟨n5, hp5, _, _, _⟩ := tenonref01_Pick_ok x.x 5 rx.1 rx.2 (by omega) (by omega)
  have c0 : ∀ {w : World} {X : HP}, Sat w₀ (blk k2 (lnA (0, 0)) 35 * (blk k1 (acA x) 47 * X)) w → ∀ i v, (acA x)[i]? = some v → w.cell? ((⟨k1, 0, none⟩ : Addr).add i) = some v := fun h i v hv => cell_blk h.right hv
  have fin : ∀ {y : Int × Int} {w : World}, LinkOk y → Sat w₀ (blk k2 (lnA (0, 0)) 35 * (blk k1 (acA x) 47 * (HPr b hb a rb r top S gs * F))) w →
      stA Try.prog (⟨k2, 0, none⟩ : Addr) 2 (lnA y) w fun w4 => ldA (⟨k2, 0, none⟩ : Addr) 2 w4 fun g6 => (fun v w' => ∃ y, v = Value.agg (lnA y) ∧ LinkOk y ∧ Sat w₀ (HPr b hb a rb r top S gs * F) w') (.agg g6) w4 := fun hy h =>
    stA_ok h rfl rfl (lnA_one _) fun w4 h4 => ldA_blk0 h4 rfl ⟨_, rfl, hy, h4.right.right⟩
  refine ldI_ok (c0 h2 3 _ rfl) <| call_pure hp5 <| asI_ok <| br_split (fun _ => fin (y := (0, 0)) ⟨by decide, by decide⟩ h2) (fun _ => br_split (fun _ => ?_) (fun _ => br_split (fun _ => ?_) (fun _ => ?_)))
  · refine ldI_ok (c0 h2 4 _ rfl) <| ldI_ok (c0 h2 1 _ rfl) <| arith_u64_any fun n9 _ _ => arith_u64_any fun n10 q0 q1 => fin (y := (2, n10)) ⟨(show -9223372036854775808 ≤ (2 : Int) ∧ (2 : Int) ≤ 9223372036854775807 by decide), q0, q1⟩ h2
  · exact ldI_ok (c0 h2 1 _ rfl) <| ldI_ok (c0 h2 4 _ rfl) <| fin (y := (x.a, x.raw)) ⟨ra, rr⟩ h2
  · refine ldI_ok (c0 h2 3 _ rfl) <| quo5_ok rx fun n hn => call_mono (given_ok (h2.perm (B := HPr b hb a rb r top S gs * (blk k2 (lnA (0, 0)) 35 * (blk k1 (acA x) 47 * F))) (by ac_rfl)) hg hl hn) ?_
    rintro _ w3 ⟨g, rfl, g0, g1, _, _, h3⟩
    exact asI_ok <| fin (y := (1, g)) ⟨(show -9223372036854775808 ≤ (1 : Int) ∧ (1 : Int) ≤ 9223372036854775807 by decide), g0, g1⟩ (h3.perm (by ac_rfl))
/-! ### what both answer -/
theorem Outc.ans {q : Res} {v : Value} {w' : World} (h : Outc w₀ F hb a top q v w') (hs : HInv top S) (hq : q.1 ≠ 0 → q.2.1 = S) (hm : q.1 = 0 → q.2.1.most = S.most) :
    ∃ S' gn fo P' pg cg pf cf, Ans q S' gn fo ∧ HInv top S' ∧ S'.most = S.most ∧ gn.length ≤ 2000 ∧ fo.length ≤ 20000 ∧ v = mk3 q.1 pg gn.length cg pf fo.length cf ∧
      Sat w₀ (tab T_uint64 1 fU64 pg gn.length cg gn * (tab T_uint64 1 fU64 pf fo.length cf fo * (HH hb a top P' S' * F))) w' := by
  rcases h with ⟨h1, rfl, P', h2⟩ | ⟨h1, r, P', pg, cg, pf, cf, g1, g2, g3, g4, g5, g6, rfl, h2⟩
  · have e := hq h1
    rw [e] at h2
    exact ⟨S, [], [], P', none, 0, none, 0, .inl ⟨h1, e.symm, rfl, rfl⟩, hs, rfl, by decide, by decide, rfl, tab_nil T_uint64 1 fU64 (tab_nil T_uint64 1 fU64 h2)⟩
  · exact ⟨r.1, r.2.1, r.2.2, P', pg, cg, pf, cf, .inr ⟨h1, g1⟩, g2, g3.trans (hm h1), g5, g6, by rw [h1], h2⟩
theorem ROutc.ans {q : Res} {v : Value} {w' : World} (h : ROutc w₀ F rb r top Q q v w') {S' : HS} {gn fo : List Int} (hA : Ans q S' gn fo) :
    ∃ pg cg pf cf, v = mk3 q.1 pg gn.length cg pf fo.length cf ∧ Sat w₀ (tab T_uint64 1 fU64 pg gn.length cg gn * (tab T_uint64 1 fU64 pf fo.length cf fo * (RH rb r top Q S' * F))) w' := by
  rcases h with ⟨h1, rfl, h2⟩ | ⟨h1, z, pg, cg, pf, cf, g1, g2, g3, g4, g5, g6, rfl, h2⟩
  · obtain ⟨rfl, rfl, rfl⟩ := hA.one (.inl ⟨h1, rfl, rfl, rfl⟩)
    exact ⟨none, 0, none, 0, rfl, tab_nil T_uint64 1 fU64 (tab_nil T_uint64 1 fU64 h2)⟩
  · obtain ⟨rfl, rfl, rfl⟩ := hA.one (.inr ⟨h1, g1⟩)
    exact ⟨pg, cg, pf, cf, by rw [h1], h2⟩
theorem both_tail {n m : Int} {gn fo : List Int} {p1 p2 p3 p4 : Option Addr} {c1 c2 c3 c4 : Nat} {R : Value → World → Prop}
    (h : Sat w₀ (tab T_uint64 1 fU64 p1 gn.length c1 gn * (tab T_uint64 1 fU64 p2 fo.length c2 fo * (tab T_uint64 1 fU64 p3 gn.length c3 gn * (tab T_uint64 1 fU64 p4 fo.length c4 fo * G)))) w) (hl : gn.length ≤ 2000) (hf : fo.length ≤ 20000) (e : n = m) (hk : ∀ w', Sat w₀ G w' → R (.bool true) w') :
    call Try.prog fn_tenonref01_SameLongs #[.slice p1 gn.length c1, .slice p3 gn.length c3] w fun v63 w18 => asB v63 fun b64 => br b64 (call Try.prog fn_tenonref01_SameLongs #[.slice p2 fo.length c2, .slice p4 fo.length c4] w18 fun v65 w19 => asB v65 fun b66 => br b66 (R (.bool ((n : Int) == m)) w19) (R (.bool false) w19)) (R (.bool false) w18) := by
  subst e
  refine call_reads (SameLongs_ok (xs := gn) (ys := gn) h.left.rd h.right.right.left.rd (by omega)) fun w18 hs => asB_ok <| br_true (by simp) ?_
  have h2 := h.same hs
  refine call_reads (SameLongs_ok (xs := fo) (ys := fo) h2.right.left.rd h2.right.right.right.left.rd (by omega)) fun w19 hs => asB_ok <| br_true (by simp) ?_
  have := hk w19 (h2.same hs).right.right.right.right
  rwa [beq_self_eq_true]
end
end Go.Proofs.Ytgchemgnmijpdaa
