/- GitPlays, GitTells: the walks. No conditions. -/
import Derived.Test.YtkgbfnlnpfedkaaGT6
set_option linter.unusedVariables false
set_option linter.unusedSimpArgs false
set_option maxRecDepth 100000
namespace Go.Proofs.Ytkgbfnlnpfedkaa
open Go.Sp Go.RowKit

/-- A pair: the table and the document's, alike; the cookies that were given. -/
def Pr (b tb a rb r : Nat) (s : AS GE) (gs : List Int) : HP := ex fun p => ex fun l => ex fun c =>
  blk b #[.pointer (some ⟨tb, 0, none⟩), .pointer (some ⟨rb, 0, none⟩), .slice p l c] T_tenonlaw19_Pair * (tab T_uint64 1 fU64 p l c gs * (Gt tb a s * RT rb r s))
theorem Pr.open_ {w₀ w : World} {F : HP} {b tb a rb r : Nat} {s : AS GE} {gs : List Int} (h : Sat w₀ (Pr b tb a rb r s gs * F) w) : ∃ p c, Sat w₀ (blk b #[.pointer (some ⟨tb, 0, none⟩), .pointer (some ⟨rb, 0, none⟩), .slice p gs.length c] T_tenonlaw19_Pair * (tab T_uint64 1 fU64 p gs.length c gs * (Gt tb a s * (RT rb r s * F)))) w := by
  obtain ⟨p, h⟩ := Sat.ex h
  obtain ⟨l, h⟩ := Sat.ex h
  obtain ⟨c, h⟩ := Sat.ex h
  have h := h.perm (B := blk b #[.pointer (some ⟨tb, 0, none⟩), .pointer (some ⟨rb, 0, none⟩), .slice p l c] T_tenonlaw19_Pair * (tab T_uint64 1 fU64 p l c gs * (Gt tb a s * (RT rb r s * F)))) (by ac_rfl)
  have e := tab_len fU64_len (by decide) h.right.left
  subst e
  exact ⟨p, c, h⟩
theorem Pr.shut {w₀ w : World} {F : HP} {b tb a rb r l : Nat} {p : Option Addr} {c : Nat} {s : AS GE} {gs : List Int} (h : Sat w₀ (blk b #[.pointer (some ⟨tb, 0, none⟩), .pointer (some ⟨rb, 0, none⟩), .slice p l c] T_tenonlaw19_Pair * (tab T_uint64 1 fU64 p l c gs * (Gt tb a s * (RT rb r s * F)))) w) : Sat w₀ (Pr b tb a rb r s gs * F) w :=
  Sat.to_ex p (Sat.to_ex l (Sat.to_ex c (h.perm (by ac_rfl))))
theorem gput_cases {s : AS GE} (hs : AOk s) (o : Int) (x : OR) : (gput s o x = put s (o, x) ∧ (gput s o x).2.2 = 0 ∧ 0 ≤ (gput s o x).2.1 ∧ (gput s o x).2.1 ≤ 18446744073709551615) ∨ ((gput s o x).2.2 ≠ 0 ∧ (gput s o x).1 = s) := by
  unfold gput
  split
  · exact .inr ⟨by simp, rfl⟩
  · by_cases he : (put s (o, x)).2.2 = 0
    · have hl : Liv (put s (o, x)).1 (put s (o, x)).2.1 (o, x) := (put_liv hs he).2 (.inr ⟨rfl, rfl⟩)
      have := hl.range (hs.put _)
      exact .inl ⟨rfl, he, by omega, this.2⟩
    · exact .inr ⟨he, by rw [put_same hs he]⟩
theorem gput_most {s : AS GE} (hs : AOk s) (o : Int) (x : OR) : (gput s o x).1.most = s.most := by
  unfold gput
  split
  · rfl
  · exact put_most hs
theorem dropR_most {s : AS GE} (hs : AOk s) (h : Int) : (dropR ge0 s h).1.most = s.most := by
  cases hf : find s h with
  | none => rw [dropR_none hf]
  | some i =>
    obtain ⟨y, hy, _, _⟩ := (find_iff hs).1 hf
    rw [dropR_some hf hy]
    exact dropS_most hy
structure Next (b tb a rb r : Nat) (w₀ : World) (F : HP) (s : AS GE) (gs : List Int) (w : World) : Prop where
  go : ∃ s' gs', AOk s' ∧ s'.most = s.most ∧ (∀ g ∈ gs', 0 ≤ g ∧ g ≤ 18446744073709551615) ∧ gs'.length ≤ gs.length + 1 ∧ Sat w₀ (Pr b tb a rb r s' gs' * F) w
theorem Pair_do_ok {w₀ w : World} {F : HP} {b tb a rb r : Nat} {s : AS GE} {gs : List Int} {x : GAct} (h : Sat w₀ (Pr b tb a rb r s gs * F) w) (hs : AOk s) (hgs : ∀ g ∈ gs, 0 ≤ g ∧ g ≤ 18446744073709551615) (hgl : gs.length ≤ 1000) (hx : ActIn x) :
    call Try.prog fn_tenonlaw19_Pair_do #[.pointer (some ⟨b, 0, none⟩), .agg (acL x).toArray] w fun v w' => v = .bool true ∧ Next b tb a rb r w₀ F s gs w' := by
  apply tenonlaw19_Pair_do_call
  unfold tenonlaw19_Pair_do
  refine new_ok h fun k w1 h1 => ?_
  obtain ⟨p, c, h1⟩ := Pr.open_ (h1.p1)
  have h1 := h1.perm (B := blk k (acL x).toArray T_tenonlaw19_Act * (blk b #[.pointer (some ⟨tb, 0, none⟩), .pointer (some ⟨rb, 0, none⟩), .slice p gs.length c] T_tenonlaw19_Pair * (tab T_uint64 1 fU64 p gs.length c gs * (Gt tb a s * (RT rb r s * F))))) (by
    show blk b _ _ * (tab _ _ _ _ _ _ _ * (Gt tb a s * (RT rb r s * (blk k (acL x).toArray T_tenonlaw19_Act * F)))) = _
    ac_rfl)
  have c39 : (acL x).toArray[39]? = some (.int .u64 x.raw) := by rw [List.getElem?_toArray]; exact acL_raw x
  have ldx : ∀ {w G}, Sat w₀ (blk k (acL x).toArray T_tenonlaw19_Act * G) w → ∀ {K : Array Value → Prop}, K (orF x.x.1) → ldA ((⟨k, 0, none⟩ : Addr).add 3) 36 w K := by
    intro w G h K hk
    refine ldA_blk (o := 3) (n := 36) h (by simp [acL_len]) ?_
    rw [acA_or]
    exact hk
  refine ldI_ok (cell_blk h1 c39) ⟨fun hh w => (0 ≤ hh ∧ hh ≤ 18446744073709551615) ∧ Sat w₀ (blk k (acL x).toArray T_tenonlaw19_Act * (blk b #[.pointer (some ⟨tb, 0, none⟩), .pointer (some ⟨rb, 0, none⟩), .slice p gs.length c] T_tenonlaw19_Pair * (tab T_uint64 1 fU64 p gs.length c gs * (Gt tb a s * (RT rb r s * F))))) w, ?_, ?_⟩
  · refine ⟨fun d w => (d = true → 0 < gs.length) ∧ Sat w₀ (blk k (acL x).toArray T_tenonlaw19_Act * (blk b #[.pointer (some ⟨tb, 0, none⟩), .pointer (some ⟨rb, 0, none⟩), .slice p gs.length c] T_tenonlaw19_Pair * (tab T_uint64 1 fU64 p gs.length c gs * (Gt tb a s * (RT rb r s * F))))) w, ?_, ?_⟩
    · exact br_split (fun _ => nn_ok <| ldS_ok (h1.right.left.cell (i := 2) rfl) ⟨fun hd => by simpa using hd, h1⟩) (fun _ => ⟨fun h => by (cases h), h1⟩)
    · rintro u d w2 ⟨hd, h2⟩
      refine br_split (fun hb => ?_) (fun _ => ⟨hx.raw, h2⟩)
      have hd := hd hb
      have h2 := h2.drew
      obtain ⟨k2, hp2, hk20, hk21, _⟩ := tenonref01_Pick_ok x.h gs.length hx.h.1 hx.h.2 (by omega) (by omega)
      have hk21 := hk21 (by omega)
      obtain ⟨y, hy⟩ : ∃ y, gs[k2.toNat]? = some y := ⟨gs[k2.toNat]'(by omega), by simp⟩
      refine nn_ok <| ldS_ok (h2.right.left.cell (i := 2) rfl) <| ldI_ok (cell_blk h2 (i := 1) rfl) <| nn_ok <| ldS_ok (h2.right.left.cell (i := 2) rfl) <| call_pure hp2 <| asI_ok ⟨h2.right.left.cell (i := 2) rfl, ?_⟩
      exact tab_idx fU64_len h2.right.right.left (by decide) hk20 hy fun g hg => ldI_ok (tab_cell fU64_len (j := 0) h2.right.right.left hg hy (by decide) rfl) ⟨hgs y (List.mem_of_getElem? hy), h2⟩
  rintro u hh w4 ⟨hr, h4⟩
  have shut : ∀ {w s' l c p gs'}, AOk s' → s'.most = s.most → (∀ g ∈ gs', 0 ≤ g ∧ g ≤ 18446744073709551615) → gs'.length ≤ gs.length + 1 → Sat w₀ (blk b #[.pointer (some ⟨tb, 0, none⟩), .pointer (some ⟨rb, 0, none⟩), .slice p l c] T_tenonlaw19_Pair * (tab T_uint64 1 fU64 p l c gs' * (Gt tb a s' * (RT rb r s' * F)))) w → Next b tb a rb r w₀ F s gs w :=
    fun k1 k2 k3 k4 h => ⟨_, _, k1, k2, k3, k4, Pr.shut h⟩
  obtain ⟨kk, hpk, hkk0, hkk1, _⟩ := tenonref01_Pick_ok x.kind 5 hx.kind.1 hx.kind.2 (by omega) (by omega)
  refine ldI_ok (cell_blk h4 (i := 0) rfl) <| call_pure hpk <| asI_ok ⟨fun _ w => Sat w₀ (blk k (acL x).toArray T_tenonlaw19_Act * (blk b #[.pointer (some ⟨tb, 0, none⟩), .pointer (some ⟨rb, 0, none⟩), .slice p gs.length c] T_tenonlaw19_Pair * (tab T_uint64 1 fU64 p gs.length c gs * (Gt tb a s * (RT rb r s * F))))) w, br_split (fun _ => h4) (fun _ => h4), ?_⟩
  rintro u bb w6 h6
  refine br_split (fun _ => ?_) (fun _ => br_split (fun _ => ?_) (fun _ => br_split (fun _ => ?_) (fun _ => ?_)))
  · have h7 := h6.drew
    refine nn_ok <| ldP_ok (h7.right.left.cell (i := 0) rfl) <| ldI_ok (cell_blk h7 (i := 2) rfl) <| ldx h7 <| call_mono (git_Put_ok (o := x.ow) (x := x.x) (h7.perm (B := Gt tb a s * (blk k (acL x).toArray T_tenonlaw19_Act * (blk b #[.pointer (some ⟨tb, 0, none⟩), .pointer (some ⟨rb, 0, none⟩), .slice p gs.length c] T_tenonlaw19_Pair * (tab T_uint64 1 fU64 p gs.length c gs * (RT rb r s * F))))) (by ac_rfl)) hs) ?_
    rintro _ w7 ⟨rfl, h8⟩
    have h8 := (h8.drew).perm (B := blk k (acL x).toArray T_tenonlaw19_Act * (blk b #[.pointer (some ⟨tb, 0, none⟩), .pointer (some ⟨rb, 0, none⟩), .slice p gs.length c] T_tenonlaw19_Pair * (tab T_uint64 1 fU64 p gs.length c gs * (Gt tb a (gput s x.ow x.x).1 * (RT rb r s * F))))) (by ac_rfl)
    refine ⟨_, _, rfl, nn_ok <| ldP_ok (h8.right.left.cell (i := 1) rfl) <| ldI_ok (cell_blk h8 (i := 2) rfl) <| ldx h8 <| call_mono (rt_Put_ok (o := x.ow) (x := x.x) (h8.perm (B := RT rb r s * (blk k (acL x).toArray T_tenonlaw19_Act * (blk b #[.pointer (some ⟨tb, 0, none⟩), .pointer (some ⟨rb, 0, none⟩), .slice p gs.length c] T_tenonlaw19_Pair * (tab T_uint64 1 fU64 p gs.length c gs * (Gt tb a (gput s x.ow x.x).1 * F))))) (by ac_rfl)) hs) ?_⟩
    rintro _ w8 ⟨rfl, h9⟩
    have h9 := h9.perm (B := blk k (acL x).toArray T_tenonlaw19_Act * (blk b #[.pointer (some ⟨tb, 0, none⟩), .pointer (some ⟨rb, 0, none⟩), .slice p gs.length c] T_tenonlaw19_Pair * (tab T_uint64 1 fU64 p gs.length c gs * (Gt tb a (gput s x.ow x.x).1 * (RT rb r (gput s x.ow x.x).1 * F))))) (by ac_rfl)
    have hok := hs.gput x.ow x.x
    have hmo := gput_most hs x.ow x.x
    have hgc := gput_cases hs x.ow x.x
    generalize gput s x.ow x.x = q at h9 hok hmo hgc ⊢
    refine ⟨_, _, rfl, br_split (fun he => ?_) (fun he => ?_)⟩
    · have he : q.2.2 = 0 := by simpa using he
      obtain ⟨_, _, hq0, hq1⟩ | ⟨hne, _⟩ := hgc
      · refine nn_ok <| ldS_ok (h9.right.left.cell (i := 2) rfl) <| new_ok h9 fun k42 w9 h10 => ?_
        refine tab_app u64sTy fU64_len (by decide) fU64_one (x := q.2.1) (h10.perm (B := _ * (tab T_uint64 1 fU64 p gs.length c gs * (blk b #[.pointer (some ⟨tb, 0, none⟩), .pointer (some ⟨rb, 0, none⟩), .slice p gs.length c] T_tenonlaw19_Pair * (blk k (acL x).toArray T_tenonlaw19_Act * (Gt tb a q.1 * (RT rb r q.1 * F)))))) (by ac_rfl)) rfl (by simp only [maxLen]; omega) (by omega) fun p' c' w10 h11 => ?_
        refine nn_ok <| st_ok (i := 2) h11.p1 (by simp) fun w11 h12 => br_true (by simp) ⟨by simp, ?_⟩
        refine shut (p := p') (l := gs.length + 1) (c := c') (gs' := gs ++ [q.2.1]) hok hmo (fun g hg => ?_) (by simp) (h12.perm (B := blk k (acL x).toArray T_tenonlaw19_Act * (blk b #[.pointer (some ⟨tb, 0, none⟩), .pointer (some ⟨rb, 0, none⟩), .slice p' (gs.length + 1) c'] T_tenonlaw19_Pair * (tab T_uint64 1 fU64 p' (gs.length + 1) c' (gs ++ [q.2.1]) * (Gt tb a q.1 * (RT rb r q.1 * F))))) (by
          show blk b #[.pointer (some ⟨tb, 0, none⟩), .pointer (some ⟨rb, 0, none⟩), .slice p' (gs.length + 1) c'] T_tenonlaw19_Pair * _ = _
          ac_rfl)).right
        rcases List.mem_append.1 hg with hg | hg
        · exact hgs g hg
        · rw [List.mem_singleton] at hg
          subst hg
          exact ⟨hq0, hq1⟩
      · exact absurd he hne
    · exact br_true (by simp) ⟨by simp, shut hok hmo hgs (by omega) h9.right⟩
  · refine nn_ok <| ldP_ok (h6.right.left.cell (i := 0) rfl) <| call_mono (git_Get_ok (h6.perm (B := Gt tb a s * (blk k (acL x).toArray T_tenonlaw19_Act * (blk b #[.pointer (some ⟨tb, 0, none⟩), .pointer (some ⟨rb, 0, none⟩), .slice p gs.length c] T_tenonlaw19_Pair * (tab T_uint64 1 fU64 p gs.length c gs * (RT rb r s * F))))) (by ac_rfl)) hs hr.1 hr.2) ?_
    have opn : ∀ {w k50 z}, Sat w₀ (blk k50 z 34 * (Gt tb a s * (blk k (acL x).toArray T_tenonlaw19_Act * (blk b #[.pointer (some ⟨tb, 0, none⟩), .pointer (some ⟨rb, 0, none⟩), .slice p gs.length c] T_tenonlaw19_Pair * (tab T_uint64 1 fU64 p gs.length c gs * (RT rb r s * F)))))) w → ∃ L pL cL, GRel s L ∧ Sat w₀ (blk rb #[.pointer (some ⟨r, 0, none⟩), .slice pL L.length cL] T_tenonref19_Table * (tab T_tenonref19_Entry 38 entF pL L.length cL L * (blk b #[.pointer (some ⟨tb, 0, none⟩), .pointer (some ⟨rb, 0, none⟩), .slice p gs.length c] T_tenonlaw19_Pair * (blk k50 z 34 * (tab T_uint64 1 fU64 p gs.length c gs * (Gt tb a s * (RAr r (mapA (fun _ => (0 : Int)) s) * F))))))) w := by
      intro w k50 z h
      obtain ⟨L, pL, cL, hrel, h⟩ := RT.open_ (h.perm (B := RT rb r s * (blk k50 z 34 * (Gt tb a s * (blk k (acL x).toArray T_tenonlaw19_Act * (blk b #[.pointer (some ⟨tb, 0, none⟩), .pointer (some ⟨rb, 0, none⟩), .slice p gs.length c] T_tenonlaw19_Pair * (tab T_uint64 1 fU64 p gs.length c gs * F)))))) (by ac_rfl))
      exact ⟨L, pL, cL, hrel, (h.perm (B := blk k (acL x).toArray T_tenonlaw19_Act * (blk rb #[.pointer (some ⟨r, 0, none⟩), .slice pL L.length cL] T_tenonref19_Table * (tab T_tenonref19_Entry 38 entF pL L.length cL L * (blk b #[.pointer (some ⟨tb, 0, none⟩), .pointer (some ⟨rb, 0, none⟩), .slice p gs.length c] T_tenonlaw19_Pair * (blk k50 z 34 * (tab T_uint64 1 fU64 p gs.length c gs * (Gt tb a s * (RAr r (mapA (fun _ => (0 : Int)) s) * F)))))))) (by ac_rfl)).right⟩
    have cls : ∀ {w k50 z L pL cL}, GRel s L → Sat w₀ (blk rb #[.pointer (some ⟨r, 0, none⟩), .slice pL L.length cL] T_tenonref19_Table * (tab T_tenonref19_Entry 38 entF pL L.length cL L * (blk b #[.pointer (some ⟨tb, 0, none⟩), .pointer (some ⟨rb, 0, none⟩), .slice p gs.length c] T_tenonlaw19_Pair * (blk k50 z 34 * (tab T_uint64 1 fU64 p gs.length c gs * (Gt tb a s * (RAr r (mapA (fun _ => (0 : Int)) s) * F))))))) w → Next b tb a rb r w₀ F s gs w := by
      intro w k50 z L pL cL hrel h
      refine shut (p := p) (l := gs.length) (c := c) hs rfl hgs (by omega) ?_
      exact ((RT.shut hrel (h.perm (B := blk rb #[.pointer (some ⟨r, 0, none⟩), .slice pL L.length cL] T_tenonref19_Table * (tab T_tenonref19_Entry 38 entF pL L.length cL L * (RAr r (mapA (fun _ => (0 : Int)) s) * (blk b #[.pointer (some ⟨tb, 0, none⟩), .pointer (some ⟨rb, 0, none⟩), .slice p gs.length c] T_tenonlaw19_Pair * (tab T_uint64 1 fU64 p gs.length c gs * (Gt tb a s * (F * blk k50 z 34))))))) (by ac_rfl))).perm (B := blk k50 z 34 * (blk b #[.pointer (some ⟨tb, 0, none⟩), .pointer (some ⟨rb, 0, none⟩), .slice p gs.length c] T_tenonlaw19_Pair * (tab T_uint64 1 fU64 p gs.length c gs * (Gt tb a s * (RT rb r s * F))))) (by ac_rfl)).right
    rcases find_get hs hh with ⟨hf, hb⟩ | ⟨i, y, hf, hy, h1, hb⟩
    · rw [hb]
      rintro _ w12 ⟨h7, rfl⟩
      refine ⟨_, _, rfl, new_ok h7 fun k50 w13 h8 => stA_ok h8 rfl (orF_sz or0) (orF_oneA or0) fun w14 h9 => ?_⟩
      obtain ⟨L, pL, cL, hrel, h10⟩ := opn h9
      refine nn_ok <| ldP_ok (h10.right.right.left.cell (i := 1) rfl) <| call_mono (rt_At_ok h10 (hrel.small hs)) ?_
      rintro _ w15 ⟨rfl, rfl⟩
      rcases atI_cases hs hrel hh with ⟨_, hat⟩ | ⟨i, y, j, hf', _⟩
      · rw [hat]
        exact asI_ok <| br_true (by decide) <| ldA_blk0 h10.right.right.right (orF_sz or0) <| or_eq (x := or0) (y := or0) <| br_true (by simp) ⟨rfl, cls hrel h10⟩
      · rw [hf] at hf'; cases hf'
    · rw [hb]
      rintro _ w12 ⟨h7, rfl⟩
      refine ⟨_, _, rfl, new_ok h7 fun k50 w13 h8 => stA_ok h8 rfl (orF_sz y.x.2) (orF_oneA y.x.2) fun w14 h9 => ?_⟩
      obtain ⟨L, pL, cL, hrel, h10⟩ := opn h9
      refine nn_ok <| ldP_ok (h10.right.right.left.cell (i := 1) rfl) <| call_mono (rt_At_ok h10 (hrel.small hs)) ?_
      rintro _ w15 ⟨rfl, rfl⟩
      rcases atI_cases hs hrel hh with ⟨hf', _⟩ | ⟨i', y', j, hf', hy', _, _, hat, hj⟩
      · rw [hf] at hf'; cases hf'
      · rw [hf] at hf'
        cases hf'
        rw [hy] at hy'
        cases hy'
        rw [hat]
        have h11 := h10.drew
        have hj' : L[(j : Int).toNat]? = some (hh, y.x) := by rw [Int.toNat_natCast]; exact hj
        refine asI_ok <| br_false (by simp) <| ldA_blk0 h11.right.right.right (orF_sz y.x.2) <| nn_ok <| ldP_ok (h11.right.right.left.cell (i := 1) rfl) <| nn_ok <| ldS_ok (h11.left.cell (i := 1) rfl) <| tab_idx entF_len h11.right.left (by decide) (by omega) hj' fun g2 hg2 => tab_ldA entF_len (o := 2) (n := 36) h11.right.left hg2 hj' (by decide) (entF_or _) ?_
        rw [orC_arr]
        exact or_eq (x := y.x.2) (y := y.x.2) <| br_true (by simp) ⟨rfl, cls hrel h11⟩
  · refine nn_ok <| ldP_ok (h6.right.left.cell (i := 0) rfl) <| call_mono (git_Drop_ok (h6.perm (B := Gt tb a s * (blk k (acL x).toArray T_tenonlaw19_Act * (blk b #[.pointer (some ⟨tb, 0, none⟩), .pointer (some ⟨rb, 0, none⟩), .slice p gs.length c] T_tenonlaw19_Pair * (tab T_uint64 1 fU64 p gs.length c gs * (RT rb r s * F))))) (by ac_rfl)) hs hr.1 hr.2) ?_
    have hok : AOk (dropR ge0 s hh).1 := hs.dropR hh
    have hmo := dropR_most hs hh
    rintro _ w12 ⟨rfl, h7⟩
    refine ⟨_, _, rfl, new_ok h7 fun k70 w13 h8 => stA_ok h8 rfl (orF_sz (dropR ge0 s hh).2.1.2) (orF_oneA (dropR ge0 s hh).2.1.2) fun w14 h9 => ?_⟩
    have h9 := h9.perm (B := RT rb r s * (blk b #[.pointer (some ⟨tb, 0, none⟩), .pointer (some ⟨rb, 0, none⟩), .slice p gs.length c] T_tenonlaw19_Pair * (blk k70 (orF (dropR ge0 s hh).2.1.2.1) 34 * (Gt tb a (dropR ge0 s hh).1 * (blk k (acL x).toArray T_tenonlaw19_Act * (tab T_uint64 1 fU64 p gs.length c gs * F)))))) (by ac_rfl)
    refine nn_ok <| ldP_ok (h9.right.left.cell (i := 1) rfl) <| call_mono (rt_Drop_ok (h := hh) h9 hs) ?_
    rintro _ w15 ⟨rfl, h10⟩
    generalize dropR ge0 s hh = q at h10 hok hmo ⊢
    refine ⟨_, _, rfl, new_ok h10 fun k76 w16 h11 => stA_ok h11 rfl (orF_sz q.2.1.2) (orF_oneA q.2.1.2) fun w17 h12 => ldA_blk0 (h12.perm (B := blk k70 (orF q.2.1.2.1) 34 * (blk k76 (orF q.2.1.2.1) 34 * (RT rb r q.1 * (blk b #[.pointer (some ⟨tb, 0, none⟩), .pointer (some ⟨rb, 0, none⟩), .slice p gs.length c] T_tenonlaw19_Pair * (Gt tb a q.1 * (blk k (acL x).toArray T_tenonlaw19_Act * (tab T_uint64 1 fU64 p gs.length c gs * F))))))) (by ac_rfl)) (orF_sz q.2.1.2) <| ldA_blk0 h12 (orF_sz q.2.1.2) <| or_eq (x := q.2.1.2) (y := q.2.1.2) <| br_true (by simp) ⟨by simp, ?_⟩⟩
    exact shut hok hmo hgs (by omega) (h12.perm (B := (blk k76 (orF q.2.1.2.1) 34 * (blk k70 (orF q.2.1.2.1) 34 * blk k (acL x).toArray T_tenonlaw19_Act)) * (blk b #[.pointer (some ⟨tb, 0, none⟩), .pointer (some ⟨rb, 0, none⟩), .slice p gs.length c] T_tenonlaw19_Pair * (tab T_uint64 1 fU64 p gs.length c gs * (Gt tb a q.1 * (RT rb r q.1 * F))))) (by ac_rfl)).right
  · have h7 := h6.drew
    obtain ⟨hok, hmo, _⟩ := leave_ok hs x.ow
    refine nn_ok <| ldP_ok (h7.right.left.cell (i := 0) rfl) <| ldI_ok (cell_blk h7 (i := 2) rfl) <| nn_ok <| ldP_ok (h7.right.left.cell (i := 1) rfl) <| ldI_ok (cell_blk h7 (i := 2) rfl) <| call_mono (git_Leave_ok (o := x.ow) (h7.perm (B := Gt tb a s * (blk k (acL x).toArray T_tenonlaw19_Act * (blk b #[.pointer (some ⟨tb, 0, none⟩), .pointer (some ⟨rb, 0, none⟩), .slice p gs.length c] T_tenonlaw19_Pair * (tab T_uint64 1 fU64 p gs.length c gs * (RT rb r s * F))))) (by ac_rfl)) hs) ?_
    rintro _ w22 ⟨p1, l1, c1, rfl, hl1, h8⟩
    have h8 := h8.perm (B := blk k (acL x).toArray T_tenonlaw19_Act * (blk b #[.pointer (some ⟨tb, 0, none⟩), .pointer (some ⟨rb, 0, none⟩), .slice p gs.length c] T_tenonlaw19_Pair * (RT rb r s * (tab T_api_Objref 36 orC p1 l1 c1 ((leave s x.ow).2.map (·.2)) * (Gt tb a (leave s x.ow).1 * (tab T_uint64 1 fU64 p gs.length c gs * F)))))) (by ac_rfl)
    refine asS_ok ⟨cell_blk h8 (i := 2) rfl, h8.right.left.cell (i := 1) rfl, call_mono (rt_Leave_ok (o := x.ow) (h8.perm (B := RT rb r s * (blk k (acL x).toArray T_tenonlaw19_Act * (blk b #[.pointer (some ⟨tb, 0, none⟩), .pointer (some ⟨rb, 0, none⟩), .slice p gs.length c] T_tenonlaw19_Pair * (tab T_api_Objref 36 orC p1 l1 c1 ((leave s x.ow).2.map (·.2)) * (Gt tb a (leave s x.ow).1 * (tab T_uint64 1 fU64 p gs.length c gs * F)))))) (by ac_rfl)) hs) ?_⟩
    rintro _ w23 ⟨p2, l2, c2, rfl, hl2, h9⟩
    have h9 := h9.perm (B := tab T_api_Objref 36 orC p1 l1 c1 ((leave s x.ow).2.map (·.2)) * (tab T_api_Objref 36 orC p2 l2 c2 ((leave s x.ow).2.map (·.2)) * (blk k (acL x).toArray T_tenonlaw19_Act * (blk b #[.pointer (some ⟨tb, 0, none⟩), .pointer (some ⟨rb, 0, none⟩), .slice p gs.length c] T_tenonlaw19_Pair * (tab T_uint64 1 fU64 p gs.length c gs * (Gt tb a (leave s x.ow).1 * (RT rb r (leave s x.ow).1 * F))))))) (by ac_rfl)
    have hls : l1 ≤ 65536 := by
      rw [hl1]
      unfold leave
      rw [dropAll_snd, List.length_map]
      have := live_len hs
      exact Nat.le_trans (List.length_filter_le _ _) (by omega)
    refine asS_ok <| call_reads (SameRefs_ok (xs := (leave s x.ow).2.map (·.2)) (ys := (leave s x.ow).2.map (·.2)) (Sat.rd (t := T_api_Objref) (c := c1) h9.left) (Sat.rd (t := T_api_Objref) (c := c2) h9.right.left) (by omega)) fun w24 hw24 => asB_ok ⟨by simp, ?_⟩
    exact shut hok hmo hgs (by omega) (h9.same hw24).right.right.right
end Go.Proofs.Ytkgbfnlnpfedkaa
