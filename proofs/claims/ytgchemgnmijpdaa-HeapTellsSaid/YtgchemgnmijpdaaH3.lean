/- Contracts of layer 11 (heap): taking in, taking away; letting go of a link. No conditions. -/
import Derived.Test.YtgchemgnmijpdaaH2
set_option linter.unusedVariables false
set_option linter.unusedSimpArgs false
set_option maxRecDepth 100000
namespace Go.Proofs.Ytgchemgnmijpdaa
open Go.Sp Go.RowKit

section
variable {w₀ w : World} {F : HP} {b a : Nat} {top : Int} {P : PM} {S : HS}
theorem stars_put {s : AS PO} (hs : AOk s) {q : Nat × OM × Loc} (h : Sat w₀ (objH q.1 q.2.1 q.2.2 * (stars s.sp * F)) w) : Sat w₀ (stars (put s (some q)).1.sp * F) w := by
  rcases put_cases hs (some q) with ⟨fr, i, y, hfr, hy, hst, hput⟩ | ⟨hfr, hfull, hput⟩ | ⟨hfr, hfull, hput⟩ <;> rw [hput] <;> dsimp only
  · rw [stars_set (List.getElem?_eq_some_iff.1 hy).1]
    rw [stars_pull hy] at h
    exact (h.perm (B := starH y.x * (objH q.1 q.2.1 q.2.2 * (stars (s.sp.eraseIdx i) * F))) (by ac_rfl)).right.perm (by show _ = starH (some q) * _ * _; rw [starH]; ac_rfl)
  · exact h.right
  · rw [stars_snoc]
    exact h.perm (by show _ = starH (some q) * _ * _; rw [starH]; ac_rfl)
theorem stars_drop {s : AS PO} {i : Nat} {y : Spot PO} (hy : s.sp[i]? = some y) (h : Sat w₀ (stars (s.sp.eraseIdx i) * F) w) : Sat w₀ (stars (dropS none s i).sp * F) w := by
  have hlt := (List.getElem?_eq_some_iff.1 hy).1
  rcases drop_cases (z := (none : PO)) hy with ⟨_, hd⟩ | ⟨_, hd⟩ <;> rw [hd] <;> dsimp only <;> rw [stars_set hlt]
  · exact (h.with_emp).perm (by show emp * _ = starH none * _ * _; rw [starH]; ac_rfl)
  · exact (h.with_emp).perm (by show emp * _ = starH none * _ * _; rw [starH]; ac_rfl)
theorem Seen.putS {s : AS PO} (hs : Seen P S s) (ho : AOk S) {q : Nat × OM × Loc} (he : (put S q.2.1).2.2 = 0) : Seen (updP P (put S q.2.1).2.1 (some q.1)) (put S q.2.1).1 (put s (some q)).1 := by
  have hok := hs.ok ho
  have hm := put_mapA (f := omO) hok (some q)
  rw [hs.om] at hm
  have hm : put S q.2.1 = (mapA omO (put s (some q)).1, (put s (some q)).2) := hm
  have he' : (put s (some q)).2.2 = 0 := by rw [hm] at he; exact he
  refine ⟨by rw [hm], fun y hy h1 => ?_, fun x => ?_⟩
  · rcases put_cases hok (some q) with ⟨fr, i, z, hfr, hz, hst, hput⟩ | ⟨hfr, hfull, hput⟩ | ⟨hfr, hfull, hput⟩ <;> rw [hput] at hy
    · rcases List.mem_or_eq_of_mem_set hy with hy | rfl
      · exact hs.sm y hy h1
      · exact ⟨q, rfl⟩
    · exact hs.sm y hy h1
    · rcases List.mem_append.1 hy with hy | hy
      · exact hs.sm y hy h1
      · rw [List.mem_singleton] at hy; subst hy; exact ⟨q, rfl⟩
  · rw [pay_put hok he', hm]
    unfold updP
    dsimp only
    split
    · rfl
    · exact hs.ptr x
theorem Seen.rm {s : AS PO} (hs : Seen P S s) (ho : AOk S) {h : Int} {x : PO} (hp : pay s h = some x) : Seen (updP P h none) (rmA z0 S h) (rmA none s h) := by
  have hok := hs.ok ho
  obtain ⟨i, y, h1, h2, h3, h4, h5⟩ := pay_spot hok hp
  refine ⟨?_, fun z hz hz1 => ?_, fun h' => ?_⟩
  · have := rm_map (f := omO) hok none h
    rw [hs.om] at this
    exact this.symm
  · rw [rm_eq hok (e := x) h1 h2] at hz
    rcases drop_cases (z := (none : PO)) h2 with ⟨_, hd⟩ | ⟨_, hd⟩ <;> rw [hd] at hz <;> (rcases List.mem_or_eq_of_mem_set hz with hz | rfl)
    · exact hs.sm z hz hz1
    · cases hz1
    · exact hs.sm z hz hz1
    · cases hz1
  · rw [pay_rm hok hp]
    unfold updP
    split
    · rfl
    · exact hs.ptr h'
theorem hput_ok {k : Nat} {o : OM} {L : Loc} (hh : Sat w₀ (objH k o L * (HH b a top P S * F)) w) (ho : AOk S) :
    call Try.prog fn_arena_Arena_Put #[.pointer (some ⟨a, 0, none⟩), .pointer (some ⟨k, 0, none⟩)] w fun v w' => v = .tuple #[.int .u64 (put S o).2.1, .int .i64 (put S o).2.2] ∧
      (((put S o).2.2 = 0 ∧ Sat w₀ (HH b a top (updP P (put S o).2.1 (some k)) (put S o).1 * F) w') ∨ ((put S o).2.2 ≠ 0 ∧ Sat w₀ (HH b a top P S * F) w')) := by
  obtain ⟨s, hs, h2⟩ := HH.open_ (hh.perm (B := HH b a top P S * (objH k o L * F)) (by ac_rfl))
  have hok := hs.ok ho
  refine call_mono (arena_Put_ok (x := ptO (some (k, o, L))) (h2.perm (B := Ar a (mapA ptO s) * (blk b (hpA a top) T_heap_Heap * (stars s.sp * (objH k o L * F)))) (by ac_rfl)) hok.mapA) ?_
  rw [put_mapA hok]
  rintro _ w1 ⟨rfl, h3⟩
  have hm := put_mapA (f := omO) hok (some (k, o, L))
  rw [hs.om] at hm
  have hm : put S o = (mapA omO (put s (some (k, o, L))).1, (put s (some (k, o, L))).2) := hm
  have hm2 : (put S o).2 = (put s (some (k, o, L))).2 := by rw [hm]
  refine ⟨by rw [hm2], ?_⟩
  by_cases he : (put S o).2.2 = 0
  · refine .inl ⟨he, HH.shut (hs.putS ho (q := (k, o, L)) he) ?_⟩
    have h4 := stars_put hok (q := (k, o, L)) (h3.perm (B := objH k o L * (stars s.sp * (blk b (hpA a top) T_heap_Heap * (Ar a (mapA ptO (put s (some (k, o, L))).1) * F)))) (by ac_rfl))
    exact h4.perm (by ac_rfl)
  · refine .inr ⟨he, HH.shut hs ?_⟩
    have he' : (put s (some (k, o, L))).2.2 ≠ 0 := by rw [← hm2]; exact he
    rw [put_same hok he'] at h3
    exact (h3.perm (B := objH k o L * (blk b (hpA a top) T_heap_Heap * (Ar a (mapA ptO s) * (stars s.sp * F)))) (by ac_rfl)).right
theorem hdrop_ok {h : Int} {o : OM} (hh : Sat w₀ (HH b a top P S * F) w) (ho : AOk S) (hp : pay S h = some o) :
    call Try.prog fn_arena_Arena_Drop #[.pointer (some ⟨a, 0, none⟩), .int .u64 h] w fun v w' => ∃ k L, v = .tuple #[.pointer (some ⟨k, 0, none⟩), .int .i64 0] ∧ P h = some k ∧ Sat w₀ (objH k o L * (HH b a top (updP P h none) (rmA z0 S h) * F)) w' := by
  obtain ⟨s, hs, h2⟩ := HH.open_ hh
  have hok := hs.ok ho
  obtain ⟨i, y, k, L, q1, q2, q3, q4, q5, q6, q7⟩ := hs.get ho hp
  have hr := pay_range ho hp
  refine call_mono (arena_Drop_ok (h2.perm (B := Ar a (mapA ptO s) * (blk b (hpA a top) T_heap_Heap * (stars s.sp * F))) (by ac_rfl)) hok.mapA (by omega) hr.2) ?_
  have e : dropR (none : Pay) (mapA ptO s) h = (mapA ptO (dropR none s h).1, ptO (dropR none s h).2.1, (dropR none s h).2.2) := dropR_map (f := ptO) hok none h
  have e2 : dropR none s h = (dropS none s i, some (k, o, L), 0) := by rw [dropR_some q1 q2, q5]
  rw [e]
  rintro _ w1 ⟨rfl, h3⟩
  rw [e2] at h3 ⊢
  refine ⟨k, L, rfl, q6, ?_⟩
  have h3 : Sat w₀ (Ar a (mapA ptO (dropS none s i)) * (blk b (hpA a top) T_heap_Heap * (stars s.sp * F))) w1 := h3
  rw [stars_pull q2, q5, starH] at h3
  have h4 := stars_drop q2 (h3.perm (B := stars (s.sp.eraseIdx i) * (objH k o L * (Ar a (mapA ptO (dropS none s i)) * (blk b (hpA a top) T_heap_Heap * F)))) (by ac_rfl))
  have hrm : rmA none s h = dropS none s i := rm_eq hok (e := (none : PO)) q1 q2
  refine (HH.shut (F := objH k o L * F) (s := rmA none s h) (hs.rm ho q7) ?_).perm (B := objH k o L * (HH b a top (updP P h none) (rmA z0 S h) * F)) (by ac_rfl)
  rw [hrm]
  exact h4.perm (by ac_rfl)

/-! ### what falls -/
def u64L (l : List Int) : List Value := l.map fun x => .int .u64 x
def FL (f b : Nat) (wt gn fo : List Int) : HP := ex fun pw => ex fun cw => ex fun pg => ex fun cg => ex fun pf => ex fun cf =>
  blk f #[.pointer (some ⟨b, 0, none⟩), .slice pw wt.length cw, .slice pg gn.length cg, .slice pf fo.length cf] T_heap_fall * (que T_uint64 pw wt.length cw (u64L wt) * (tab T_uint64 1 fU64 pg gn.length cg gn * tab T_uint64 1 fU64 pf fo.length cf fo))
section
variable {f : Nat} {wt gn fo : List Int}
theorem FL.open_ (h : Sat w₀ (FL f b wt gn fo * F) w) : ∃ pw cw pg cg pf cf, Sat w₀ (blk f #[.pointer (some ⟨b, 0, none⟩), .slice pw wt.length cw, .slice pg gn.length cg, .slice pf fo.length cf] T_heap_fall * (que T_uint64 pw wt.length cw (u64L wt) * (tab T_uint64 1 fU64 pg gn.length cg gn * (tab T_uint64 1 fU64 pf fo.length cf fo * F)))) w := by
  obtain ⟨pw, h⟩ := Sat.ex h
  obtain ⟨cw, h⟩ := Sat.ex h
  obtain ⟨pg, h⟩ := Sat.ex h
  obtain ⟨cg, h⟩ := Sat.ex h
  obtain ⟨pf, h⟩ := Sat.ex h
  obtain ⟨cf, h⟩ := Sat.ex h
  exact ⟨pw, cw, pg, cg, pf, cf, h.perm (by ac_rfl)⟩
theorem FL.shut {lw lg lf cw cg cf : Nat} {pw pg pf : Option Addr} (h : Sat w₀ (blk f #[.pointer (some ⟨b, 0, none⟩), .slice pw lw cw, .slice pg lg cg, .slice pf lf cf] T_heap_fall * (que T_uint64 pw lw cw (u64L wt) * (tab T_uint64 1 fU64 pg lg cg gn * (tab T_uint64 1 fU64 pf lf cf fo * F)))) w) (h1 : lw = wt.length) (h2 : lg = gn.length) (h3 : lf = fo.length) : Sat w₀ (FL f b wt gn fo * F) w := by
  subst h1 h2 h3
  exact Sat.to_ex pw (Sat.to_ex cw (Sat.to_ex pg (Sat.to_ex cg (Sat.to_ex pf (Sat.to_ex cf (h.perm (by ac_rfl)))))))
theorem FL.start (h : Sat w₀ (blk f #[.pointer (some ⟨b, 0, none⟩), .slice none 0 0, .slice none 0 0, .slice none 0 0] T_heap_fall * F) w) : Sat w₀ (FL f b [] [] [] * F) w :=
  FL.shut (que_nil T_uint64 (tab_nil T_uint64 1 fU64 (tab_nil T_uint64 1 fU64 h)) |>.perm (by ac_rfl)) rfl rfl rfl
theorem FL.c0 (h : Sat w₀ (FL f b wt gn fo * F) w) : w.cell? ((⟨f, 0, none⟩ : Addr).add 0) = some (.pointer (some ⟨b, 0, none⟩)) := by
  obtain ⟨pw, cw, pg, cg, pf, cf, h⟩ := FL.open_ h
  exact cell_blk h (i := 0) rfl
/-- A link is let go. -/
theorem heap_let_ok {x : Int × Int} (hh : Sat w₀ (FL f b wt gn fo * (HH b a top P S * F)) w) (hs : HInv top S) (hx : LinkOk x) (hl : wt.length ≤ 100000) (hf : fo.length ≤ 100000) :
    call Try.prog fn_heap_fall_let #[.pointer (some ⟨f, 0, none⟩), .agg (lnA x)] w fun v w' => v = .tuple #[] ∧ Sat w₀ (FL f b (letM S wt fo x).2.1 gn (letM S wt fo x).2.2 * (HH b a top P (letM S wt fo x).1 * F)) w' := by
  apply heap_fall_let_call
  unfold heap_fall_let
  have hx2 := hx.2
  refine new_ok hh fun k1 w1 h1 => ?_
  have h1 : Sat w₀ (blk k1 (lnA x) 35 * (FL f b wt gn fo * (HH b a top P S * F))) w1 := h1
  refine ldI_ok (n := x.1) (cell_blk h1 (i := 0) rfl) <| br_split (fun e1 => ?_) (fun e1 => ?_)
  · have e1 : x.1 = 1 := by simpa using e1
    have h1 := h1.drew
    have hh2 := h1.perm (B := HH b a top P S * (FL f b wt gn fo * (blk k1 (lnA x) 35 * F))) (by ac_rfl)
    refine nn_ok <| ldP_ok (FL.c0 h1.right) <| ldI_ok (n := x.2) (cell_blk h1 (i := 1) rfl) <| call_mono (heap_Whole_ok hh2 hs.ok hx2.1 hx2.2) ?_
    rintro _ w2 ⟨rfl, rfl⟩
    cases hw : whole S x.2 with
    | none =>
      refine ⟨_, _, rfl, br_true rfl ⟨rfl, ?_⟩⟩
      have e : letM S wt fo x = (S, wt, fo) := by simp [letM, e1, hw]
      rw [e]
      exact h1.right
    | some y =>
      obtain ⟨o, hp, h0⟩ := hs.whole hw
      have hr := pay_range hs.ok hp
      refine ⟨_, _, rfl, br_false rfl <| nn_ok <| ldP_ok (FL.c0 h1.right) <| call_mono (hfind_ok hh2 hs.ok (by omega) hr.2) ?_⟩
      rintro _ w3 ⟨rfl, ⟨hp', rfl⟩ | ⟨k, o', hp', hk, rfl⟩⟩
      · rw [hp] at hp'; cases hp'
      rw [hp] at hp'
      cases hp'
      obtain ⟨k', L, R, hk', h3, cl⟩ := HH.at hh2 hs.ok hp
      rw [hk] at hk'
      cases hk'
      have hro := hs.rng y o hp
      have htp := hs.tp
      have hcn := hro.cn
      have h4 : Sat w₀ (blk k (oA o L) T_heap_object * (objT o L * (R * (FL f b wt gn fo * (blk k1 (lnA x) 35 * F))))) w1.drew := h3.perm (by rw [objH]; ac_rfl)
      refine ⟨_, _, rfl, nn_ok <| ldI_ok (n := o.cn) (cell_blk h4 (i := 0) rfl) <| br_dec (fun hpos => ?_) (fun hz => ?_)⟩
      · refine nn_ok <| ldI_ok (n := o.cn) (cell_blk h4 (i := 0) rfl) <| arith_u32 (by omega) (by omega) <| nn_ok <| st_ok (i := 0) h4 (by simp [oA]) fun w4 h5 => ?_
        have h5 : Sat w₀ (blk k (oA { o with cn := o.cn - 1 } L) T_heap_object * (objT o L * (R * (FL f b wt gn fo * (blk k1 (lnA x) 35 * F))))) w4 := h5
        have h6 := cl { o with cn := o.cn - 1 } L (FL f b wt gn fo * (blk k1 (lnA x) 35 * F)) w4 (h5.perm (by rw [objH]; show _ = blk k _ _ * objT o L * _; ac_rfl))
        refine nn_ok <| ldI_ok (n := o.cn - 1) (cell_blk h5 (i := 0) rfl) <| br_split (fun hz => ?_) (fun hnz => ?_)
        · have hz : o.cn = 1 := by have : o.cn - 1 = 0 := by simpa using hz
                                   omega
          have e : letM S wt fo x = (upA S y { o with cn := o.cn - 1 }, wt ++ [y], fo) := by simp [letM, e1, hw, hp, hpos, hz]
          rw [e]
          obtain ⟨pw, cw, pg, cg, pf, cf, h7⟩ := FL.open_ (h6.perm (B := FL f b wt gn fo * (HH b a top P (upA S y { o with cn := o.cn - 1 }) * (blk k1 (lnA x) 35 * F))) (by ac_rfl))
          refine nn_ok <| ldS_ok (cell_blk h7 (i := 1) rfl) <| new_ok h7 fun k24 w5 h8 => ?_
          refine que_app u64sTy (h8.perm (B := blk k24 #[.int .u64 y] 29 * (que T_uint64 pw wt.length cw (u64L wt) * (blk f #[.pointer (some ⟨b, 0, none⟩), .slice pw wt.length cw, .slice pg gn.length cg, .slice pf fo.length cf] T_heap_fall * (tab T_uint64 1 fU64 pg gn.length cg gn * (tab T_uint64 1 fU64 pf fo.length cf fo * (HH b a top P (upA S y { o with cn := o.cn - 1 }) * (blk k1 (lnA x) 35 * F))))))) (by ac_rfl)) rfl (by simp only [maxLen]; omega) (by omega) fun p' c' w6 h9 => ?_
          refine nn_ok <| st_ok (i := 1) (h9.perm (B := blk f #[.pointer (some ⟨b, 0, none⟩), .slice pw wt.length cw, .slice pg gn.length cg, .slice pf fo.length cf] T_heap_fall * (que T_uint64 p' (wt.length + 1) c' (u64L wt ++ [.int .u64 y]) * (tab T_uint64 1 fU64 pg gn.length cg gn * (tab T_uint64 1 fU64 pf fo.length cf fo * (HH b a top P (upA S y { o with cn := o.cn - 1 }) * (blk k1 (lnA x) 35 * F)))))) (by ac_rfl)) (by simp) fun w7 h10 => ⟨rfl, ?_⟩
          have e2 : u64L wt ++ [.int .u64 y] = u64L (wt ++ [y]) := by simp [u64L]
          rw [e2] at h10
          exact ((FL.shut (wt := wt ++ [y]) (h10 : Sat w₀ (blk f #[.pointer (some ⟨b, 0, none⟩), .slice p' (wt.length + 1) c', .slice pg gn.length cg, .slice pf fo.length cf] T_heap_fall * _) w7) (by simp) rfl rfl).perm (B := blk k1 (lnA x) 35 * (FL f b (wt ++ [y]) gn fo * (HH b a top P (upA S y { o with cn := o.cn - 1 }) * F))) (by ac_rfl)).right
        · have hnz : ¬ o.cn = 1 := by have : ¬ o.cn - 1 = 0 := by simpa using hnz
                                      omega
          have e : letM S wt fo x = (upA S y { o with cn := o.cn - 1 }, wt, fo) := by simp [letM, e1, hw, hp, hpos, hnz]
          rw [e]
          exact ⟨rfl, (h6.perm (B := blk k1 (lnA x) 35 * (FL f b wt gn fo * (HH b a top P (upA S y { o with cn := o.cn - 1 }) * F))) (by ac_rfl)).right⟩
      · have e : letM S wt fo x = (S, wt, fo) := by simp [letM, e1, hw, hp, hz]
        rw [e]
        exact ⟨rfl, h1.right⟩
  have e1 : x.1 ≠ 1 := by simpa using e1
  refine br_split (fun e2 => ?_) (fun e2 => ?_)
  · have e2 : x.1 = 2 := by simpa using e2
    have e : letM S wt fo x = (S, wt, fo ++ [x.2]) := by simp [letM, e2]
    rw [e]
    have h1 := h1.drew
    obtain ⟨pw, cw, pg, cg, pf, cf, h7⟩ := FL.open_ (h1.perm (B := FL f b wt gn fo * (HH b a top P S * (blk k1 (lnA x) 35 * F))) (by ac_rfl))
    refine nn_ok <| ldS_ok (cell_blk h7 (i := 3) rfl) <| ldI_ok (n := x.2) (cell_blk h1 (i := 1) rfl) <| new_ok h7 fun k30 w5 h8 => ?_
    refine tab_app u64sTy fU64_len (by decide) fU64_one (x := x.2) (h8.perm (B := blk k30 #[.int .u64 x.2] 29 * (tab T_uint64 1 fU64 pf fo.length cf fo * (blk f #[.pointer (some ⟨b, 0, none⟩), .slice pw wt.length cw, .slice pg gn.length cg, .slice pf fo.length cf] T_heap_fall * (que T_uint64 pw wt.length cw (u64L wt) * (tab T_uint64 1 fU64 pg gn.length cg gn * (HH b a top P S * (blk k1 (lnA x) 35 * F))))))) (by ac_rfl)) rfl (by simp only [maxLen]; omega) (by omega) fun p' c' w6 h9 => ?_
    refine nn_ok <| st_ok (i := 3) (h9.perm (B := blk f #[.pointer (some ⟨b, 0, none⟩), .slice pw wt.length cw, .slice pg gn.length cg, .slice pf fo.length cf] T_heap_fall * (que T_uint64 pw wt.length cw (u64L wt) * (tab T_uint64 1 fU64 pg gn.length cg gn * (tab T_uint64 1 fU64 p' (fo.length + 1) c' (fo ++ [x.2]) * (HH b a top P S * (blk k1 (lnA x) 35 * F)))))) (by ac_rfl)) (by simp) fun w7 h10 => ⟨rfl, ?_⟩
    exact ((FL.shut (fo := fo ++ [x.2]) (h10 : Sat w₀ (blk f #[.pointer (some ⟨b, 0, none⟩), .slice pw wt.length cw, .slice pg gn.length cg, .slice p' (fo.length + 1) c'] T_heap_fall * _) w7) rfl rfl (by simp)).perm (B := blk k1 (lnA x) 35 * (FL f b wt gn (fo ++ [x.2]) * (HH b a top P S * F))) (by ac_rfl)).right
  · have e2 : x.1 ≠ 2 := by simpa using e2
    have e : letM S wt fo x = (S, wt, fo) := by simp [letM, e1, e2]
    rw [e]
    exact ⟨rfl, h1.right⟩
end
end
end Go.Proofs.Ytgchemgnmijpdaa
