/- Contracts of layer 11 (heap): making, laying, removing. No conditions. -/
import Derived.Test.YtgchemgnmijpdaaH4
import Derived.Test.YtgchemgnmijpdaaSpM
set_option linter.unusedVariables false
set_option linter.unusedSimpArgs false
set_option maxRecDepth 100000
namespace Go.Proofs.Ytgchemgnmijpdaa
open Go.Sp Go.RowKit

theorem zeros_links {n : Nat} (h : n ≤ 8) : zerosOf (.agg (lnA (0, 0))) n = (List.replicate n ((0, 0) : Int × Int)).flatMap lnF := by
  have : n = 0 ∨ n = 1 ∨ n = 2 ∨ n = 3 ∨ n = 4 ∨ n = 5 ∨ n = 6 ∨ n = 7 ∨ n = 8 := by omega
  rw [zerosOf, zeros_toList]
  rcases this with rfl | rfl | rfl | rfl | rfl | rfl | rfl | rfl | rfl <;> rfl
section
variable {w₀ w : World} {F : HP} {b a : Nat} {top : Int} {P : PM} {S : HS}
/-- An object's cells, apart from its tables. -/
theorem obj_open {k : Nat} {o : OM} {L : Loc} (h : Sat w₀ (objH k o L * F) w) : Sat w₀ (blk k (oA o L) T_heap_object * (tab T_api_Link 2 lnF L.pl o.ln.length L.cl o.ln * (tab T_uint64 1 fU64 L.pi o.inn.length L.ci o.inn * F))) w := h.perm (by rw [objH, objT]; ac_rfl)
theorem obj_shut {k : Nat} {o : OM} {L : Loc} (h : Sat w₀ (blk k (oA o L) T_heap_object * (tab T_api_Link 2 lnF L.pl o.ln.length L.cl o.ln * (tab T_uint64 1 fU64 L.pi o.inn.length L.ci o.inn * F))) w) : Sat w₀ (objH k o L * F) w := h.perm (by rw [objH, objT]; ac_rfl)
theorem heap_Make_nil {slots outer : Int} : PureCall Try.prog fn_heap_Heap_Make #[.pointer none, .int .i64 slots, .int .u64 outer] (.tuple #[.int .u64 0, .int .i64 3]) := by
  intro w
  apply heap_Heap_Make_call
  unfold heap_Heap_Make
  exact br_true rfl ⟨rfl, rfl⟩
theorem heap_Make_ok {slots outer : Int} (hh : Sat w₀ (HH b a top P S * F) w) (hs : HInv top S) (h0 : 0 ≤ outer) (h1 : outer ≤ 18446744073709551615) :
    call Try.prog fn_heap_Heap_Make #[.pointer (some ⟨b, 0, none⟩), .int .i64 slots, .int .u64 outer] w fun v w' => v = .tuple #[.int .u64 (mkM S slots outer).2.1, .int .i64 (mkM S slots outer).2.2] ∧ ∃ P', Sat w₀ (HH b a top P' (mkM S slots outer).1 * F) w' := by
  apply heap_Heap_Make_call
  unfold heap_Heap_Make
  refine br_false rfl <| br_dec (fun hlt => ?_) (fun hge => br_dec (fun hgt => ?_) (fun hle => ?_))
  · rw [mkM, if_pos (.inl hlt)]; exact ⟨rfl, P, hh⟩
  · rw [mkM, if_pos (.inr (by omega))]; exact ⟨rfl, P, hh⟩
  obtain ⟨n, rfl⟩ : ∃ n : Nat, slots = n := ⟨slots.toNat, by omega⟩
  have e0 : mkM S n outer = if outer = 0 then put S (newO n 0) else match pay S outer with
      | none => (S, 0, 2)
      | some o => if o.ou ≠ 0 then (S, 0, 1) else
        if (put S (newO n outer)).2.2 = 0 then (upA (put S (newO n outer)).1 outer { o with inn := o.inn ++ [(put S (newO n outer)).2.1] }, (put S (newO n outer)).2.1, 0) else (S, 0, 3) := by
    rw [mkM, if_neg (by omega)]
    simp only [Int.toNat_natCast]
    rfl
  rw [e0]
  refine make_ok (l := n) (c := n) linksTy hh (Nat.le_refl _) (by omega) (by omega) fun p1 w1 h2 => ?_
  have hzl : ((zerosOf (.agg (lnA (0, 0))) n).take (n * 2)) = (List.replicate n ((0, 0) : Int × Int)).flatMap lnF := by
    rw [zeros_links (by omega), List.take_of_length_le]
    rw [flatLen lnF_len, List.length_replicate]
    exact Nat.le_refl _
  rw [hzl] at h2
  refine new_ok h2 fun k2 w2 h3 => ?_
  have h4 : Sat w₀ (objH k2 (newO n outer) ⟨p1, n, none, 0⟩ * (HH b a top P S * F)) w2 := by
    refine obj_shut ((tab_nil T_uint64 1 fU64 h3).perm ?_)
    have el : (newO n outer).ln.length = n := by simp [newO]
    have ec : oA (newO n outer) ⟨p1, n, none, 0⟩ = #[.int .u32 1, .int .u64 outer, .int .i64 0, .slice p1 n n, .slice none 0 0] := by simp [oA, newO]
    rw [ec]
    dsimp only
    rw [el]
    show tab T_uint64 1 fU64 none 0 0 [] * (blk k2 _ T_heap_object * (own T_api_Link 2 p1 n n ((List.replicate n ((0, 0) : Int × Int)).flatMap lnF) * (HH b a top P S * F))) = blk k2 _ T_heap_object * (own T_api_Link 2 p1 n n ((List.replicate n ((0, 0) : Int × Int)).flatMap lnF) * (tab T_uint64 1 fU64 none 0 0 [] * (HH b a top P S * F)))
    ac_rfl
  have hh4 := h4.perm (B := HH b a top P S * (objH k2 (newO n outer) ⟨p1, n, none, 0⟩ * F)) (by ac_rfl)
  refine br_split (fun hne => ?_) (fun hz => ?_)
  · have hne : outer ≠ 0 := by simpa using hne
    rw [if_neg hne]
    refine call_mono (hfind_ok hh4 hs.ok h0 h1) ?_
    rintro _ w3 ⟨rfl, ⟨hp, rfl⟩ | ⟨k, o, hp, hk, rfl⟩⟩
    · refine ⟨_, _, rfl, fun e w => e = 2 ∧ w = w3, br_false (by decide) ⟨rfl, rfl⟩, ?_⟩
      rintro u e w4 ⟨rfl, rfl⟩
      rw [hp]
      exact br_true (by decide) ⟨rfl, P, h4.right⟩
    rw [hp]
    dsimp only
    obtain ⟨k', L, R, hk', h5, _⟩ := HH.at hh4 hs.ok hp
    rw [hk] at hk'
    cases hk'
    refine ⟨_, _, rfl, fun e w => e = (if o.ou ≠ 0 then 1 else 0) ∧ w = w3, br_true rfl <| nn_ok <| ldI_ok (n := o.ou) (obj_cell h5 (i := 1) rfl) <| br_split (fun h => ⟨?_, rfl⟩) (fun h => ⟨?_, rfl⟩), ?_⟩
    · rw [if_pos (by simpa using h)]
    · rw [if_neg (by simpa using h)]
    rintro u e w4 ⟨rfl, rfl⟩
    by_cases ho : o.ou = 0
    · rw [if_neg (show ¬ o.ou ≠ 0 from fun q => q ho), if_neg (show ¬ o.ou ≠ 0 from fun q => q ho)]
      refine br_false rfl <| nn_ok <| ldP_ok (HH.c1 hh4) <| call_mono (hput_ok h4 hs.ok) ?_
      rintro _ w5 ⟨rfl, ⟨he, h6⟩ | ⟨he, h6⟩⟩
      · rw [if_pos he]
        have hfr := pay_fresh hs.ok he
        have hb := hs.toHBase.put (newO_ok hs.tp.1 (slots := n) (by omega) ⟨h0, h1⟩) he
        obtain ⟨x, hx⟩ : ∃ x, x = (put S (newO n outer)).2.1 := ⟨_, rfl⟩
        have hwx : outer ≠ x := fun e => by rw [e, hx, hfr] at hp; cases hp
        have hpw : pay (put S (newO n outer)).1 outer = some o := by rw [pay_put hs.ok he, ← hx, if_neg hwx]; exact hp
        obtain ⟨k'', L2, R2, hk2, h7, cl2⟩ := HH.at h6 hb.ok hpw
        have hk3 : k'' = k := by
          have : updP P (put S (newO n outer)).2.1 (some k2) outer = P outer := by rw [updP, ← hx, if_neg hwx]
          rw [this, hk] at hk2
          exact (Option.some.inj hk2).symm
        subst hk3
        have hil := hs.innlen hp
        have hcnt := hs.toHBase.cnt
        have h8 := obj_open h7
        refine ⟨_, _, rfl, br_true (by simp [he]) <| nn_ok <| ldS_ok (cell_blk h8 (i := 4) rfl) <| new_ok h8 fun k18 w6 h9 => ?_⟩
        rw [← hx] at h9 ⊢
        refine tab_app u64sTy fU64_len (by decide) fU64_one (x := x) (h9.perm (B := blk k18 #[.int .u64 x] 29 * (tab T_uint64 1 fU64 L2.pi o.inn.length L2.ci o.inn * (blk k'' (oA o L2) T_heap_object * (tab T_api_Link 2 lnF L2.pl o.ln.length L2.cl o.ln * (R2 * F))))) (by ac_rfl)) rfl (by simp only [maxLen]; omega) (by omega) fun p' c' w7 h10 => ?_
        refine nn_ok <| st_ok (i := 4) (h10.perm (B := blk k'' (oA o L2) T_heap_object * (tab T_api_Link 2 lnF L2.pl o.ln.length L2.cl o.ln * (tab T_uint64 1 fU64 p' (o.inn.length + 1) c' (o.inn ++ [x]) * (R2 * F)))) (by ac_rfl)) (by simp [oA]) fun w8 h11 => ⟨by rw [he], _, cl2 { o with inn := o.inn ++ [x] } ⟨L2.pl, L2.cl, p', c'⟩ F w8 (obj_shut ?_)⟩
        have el : (o.inn ++ [x]).length = o.inn.length + 1 := by simp
        unfold oA
        dsimp only
        rw [el]
        exact h11
      · rw [if_neg he]
        rw [put_same hs.ok he]
        exact ⟨_, _, rfl, br_false (by simp) ⟨rfl, P, h6⟩⟩
    · rw [if_pos (show o.ou ≠ 0 from ho), if_pos (show o.ou ≠ 0 from ho)]
      exact br_true rfl ⟨rfl, P, h4.right⟩
  · have hz : outer = 0 := by simpa using hz
    subst hz
    rw [if_pos rfl]
    refine nn_ok <| ldP_ok (HH.c1 hh4) <| call_mono (hput_ok h4 hs.ok) ?_
    rintro _ w5 ⟨rfl, ⟨he, h6⟩ | ⟨he, h6⟩⟩
    · exact ⟨_, _, rfl, rfl, _, h6⟩
    · refine ⟨_, _, rfl, rfl, P, ?_⟩
      rw [put_same hs.ok he]
      exact h6
/-! ### laying -/
theorem heap_right_ok {x : Int × Int} (h : Sat w₀ F w) : call Try.prog fn_heap_right #[.agg (lnA x)] w fun v w' => v = .bool (rightB x) ∧ Sat w₀ F w' := by
  apply heap_right_call
  unfold heap_right
  refine new_ok h fun k1 w1 h1 => ?_
  have h1 : Sat w₀ (blk k1 (lnA x) 35 * F) w1 := h1
  have c0 := cell_blk h1 (i := 0) (v := .int .i64 x.1) rfl
  have c1 := cell_blk h1 (i := 1) (v := .int .u64 x.2) rfl
  refine ldI_ok c0 <| br_split (fun e0 => ?_) (fun e0 => ?_)
  · have e0 : x.1 = 0 := by simpa using e0
    refine ldI_ok c1 <| br_split (fun e1 => ⟨?_, h1.right⟩) (fun e1 => ?_)
    · have e1 : x.2 = 0 := by simpa using e1
      simp [rightB, e0, e1]
    · have e1 : x.2 ≠ 0 := by simpa using e1
      refine ldI_ok c0 <| br_false (by simp [e0]) <| ldI_ok c0 ⟨?_, h1.right⟩
      simp [rightB, e0, e1]
  · have e0 : x.1 ≠ 0 := by simpa using e0
    refine ldI_ok c0 <| br_split (fun e1 => ⟨?_, h1.right⟩) (fun e1 => ldI_ok c0 ⟨?_, h1.right⟩)
    · have e1 : x.1 = 1 := by simpa using e1
      simp [rightB, e1]
    · have e1 : x.1 ≠ 1 := by simpa using e1
      rw [rightB]
      congr 1
      rw [Bool.eq_iff_iff]
      simp [e0, e1]
/-- What a call that lets go answers. -/
def Outc (w₀ : World) (F : HP) (b a : Nat) (top : Int) (r : Res) (v : Value) (w' : World) : Prop :=
  (r.1 ≠ 0 ∧ v = mk3 r.1 none 0 0 none 0 0 ∧ ∃ P', Sat w₀ (HH b a top P' r.2.1 * F) w') ∨ (r.1 = 0 ∧ Fell w₀ F b a top r.2.1 r.2.2.1 [] r.2.2.2 (mk3 0) v w')
theorem heap_Down_out {h : Int} (hh : Sat w₀ (HH b a top P S * F) w) (hs : HInv top S) (h0 : 0 ≤ h) (h1 : h ≤ 18446744073709551615) :
    call Try.prog fn_heap_Heap_Down #[.pointer (some ⟨b, 0, none⟩), .int .u64 h] w (Outc w₀ F b a top (dnM S h)) := by
  refine call_mono (heap_Down_ok hh hs h0 h1) ?_
  rintro v w' (⟨hp, rfl, h2⟩ | ⟨⟨o, hp⟩, h2⟩)
  · rw [dnM, hp]; exact .inl ⟨(show (2 : Int) ≠ 0 by decide), rfl, P, h2⟩
  · rw [dnM, hp]; exact .inr ⟨rfl, h2⟩
theorem heap_Put_ok {h slot : Int} {x : Int × Int} (hh : Sat w₀ (HH b a top P S * F) w) (hs : HInv top S) (hx : LinkOk x) (h0 : 0 ≤ h) (h1 : h ≤ 18446744073709551615) :
    call Try.prog fn_heap_Heap_Put #[.pointer (some ⟨b, 0, none⟩), .int .u64 h, .int .i64 slot, .agg (lnA x)] w (Outc w₀ F b a top (putM top S h slot x)) := by
  apply heap_Heap_Put_call
  unfold heap_Heap_Put
  refine new_ok hh fun k1 w1 h2 => ?_
  have h2 : Sat w₀ (blk k1 (lnA x) 35 * (HH b a top P S * F)) w1 := h2
  have hh2 := h2.perm (B := HH b a top P S * (blk k1 (lnA x) 35 * F)) (by ac_rfl)
  have bad : ∀ {e : Int} {w : World}, e ≠ 0 → Sat w₀ (blk k1 (lnA x) 35 * (HH b a top P S * F)) w → Outc w₀ F b a top (e, S, [], []) (mk3 e none 0 0 none 0 0) w := fun he h => .inl ⟨he, rfl, P, h.right⟩
  refine call_mono (hfind_ok hh2 hs.ok h0 h1) ?_
  rintro _ w2 ⟨rfl, ⟨hp, rfl⟩ | ⟨k, o, hp, hk, rfl⟩⟩
  · rw [putM, hp]
    exact ⟨_, _, rfl, br_true rfl (bad (by decide) h2)⟩
  rw [putM, hp]
  dsimp only
  refine ⟨_, _, rfl, br_false rfl <| br_dec (fun hlt => ?_) (fun hge => ?_)⟩
  · rw [if_pos (.inl hlt)]; exact bad (by decide) h2
  obtain ⟨k', L, R, hk', h3, _⟩ := HH.at hh2 hs.ok hp
  rw [hk] at hk'
  cases hk'
  refine nn_ok <| ldS_ok (obj_cell h3 (i := 3) rfl) <| br_dec (fun hle => ?_) (fun hgt => ?_)
  · rw [if_pos (.inr (.inl (by omega)))]; exact bad (by decide) h2
  refine ldA_blk0 h2 rfl <| call_mono (heap_right_ok h2) ?_
  rintro _ w3 ⟨rfl, h4⟩
  refine asB_ok <| br_split (fun hr => ?_) (fun hr => ?_)
  · rw [if_pos (.inr (.inr (by simpa using hr)))]; exact bad (by decide) h4
  have hr : rightB x = true := by simpa using hr
  rw [if_neg (by simp [hr]; omega)]
  obtain ⟨n, rfl⟩ : ∃ n : Nat, slot = n := ⟨slot.toNat, by omega⟩
  rw [Int.toNat_natCast]
  have hn : n < o.ln.length := by omega
  -- the object is held, if it is one
  obtain ⟨S1, hS1⟩ : ∃ S1, S1 = if x.1 = 1 then (upM top S x.2).1 else S := ⟨_, rfl⟩
  refine ⟨fun w => (x.1 = 1 → (upM top S x.2).2.2 = 0) ∧ Sat w₀ (blk k1 (lnA x) 35 * (HH b a top P S1 * F)) w, ldI_ok (n := x.1) (cell_blk h4 (i := 0) rfl) <| br_split (fun e1 => ?_) (fun e1 => ?_), ?_⟩
  · have e1 : x.1 = 1 := by simpa using e1
    rw [if_pos e1]
    rw [if_pos e1] at hS1
    refine ldI_ok (n := x.2) (cell_blk h4 (i := 1) rfl) <| call_mono (heap_Up_ok (h4.perm (B := HH b a top P S * (blk k1 (lnA x) 35 * F)) (by ac_rfl)) hs hx.2.1 hx.2.2) ?_
    rintro _ w4 ⟨rfl, h5⟩
    refine ⟨_, _, rfl, br_split (fun he => ?_) (fun he => ?_)⟩
    · have he : (upM top S x.2).2.2 ≠ 0 := by simpa using he
      rw [if_pos he]
      refine .inl ⟨he, rfl, P, ?_⟩
      have e : (upM top S x.2).1 = S := by
        revert he
        unfold upM
        split
        · intro _; rfl
        · split
          · intro _; rfl
          · split
            · intro _; rfl
            · intro he; exact absurd rfl he
      rw [e] at h5
      exact (h5.perm (B := blk k1 (lnA x) 35 * (HH b a top P S * F)) (by ac_rfl)).right
    · have he : (upM top S x.2).2.2 = 0 := by simpa using he
      refine ⟨fun _ => he, ?_⟩
      rw [hS1]
      exact h5.perm (by ac_rfl)
  · have e1 : x.1 ≠ 1 := by simpa using e1
    rw [if_neg e1] at hS1
    rw [hS1]
    exact ⟨fun e => absurd e e1, h4⟩
  rintro u w5 ⟨hup, h5⟩
  have hs1 : HInv top S1 := by rw [hS1]; split; exact (upM_inv hs).1; exact hs
  obtain ⟨o1, hp1, hln, _⟩ : ∃ o1, pay S1 h = some o1 ∧ o1.ln = o.ln ∧ True := by
    rw [hS1]
    split
    · obtain ⟨o', q1, q2, _⟩ := upM_pay (top := top) (h := x.2) hs.ok hp
      exact ⟨o', q1, q2, trivial⟩
    · exact ⟨o, hp, rfl, trivial⟩
  have hcnt1 : S1.cnt = S.cnt ∧ S1.most = S.most := by rw [hS1]; split; exact (upM_inv hs).2; exact ⟨rfl, rfl⟩
  have goal : (if x.1 = 1 then (if (upM top S x.2).2.2 ≠ 0 then ((upM top S x.2).2.2, S, [], []) else (0, layM (upM top S x.2).1 h n x)) else (0, layM S h n x) : Res) = (0, layM S1 h n x) := by
    rw [hS1]
    by_cases e1 : x.1 = 1
    · rw [if_pos e1, if_pos e1, if_neg (by simp [hup e1])]
    · rw [if_neg e1, if_neg e1]
  rw [goal]
  have hL := layM_inv (h := h) (i := n) (x := x) hs1 hx
  have hcc := hs.toHBase.cnt
  have elay : layM S1 h n x = letM (upA S1 h { o1 with ln := o1.ln.set n x }) [] [] (o1.ln.getD n (0, 0)) := by rw [layM, hp1]
  refine new_ok h5 fun k17 w6 h6 => ?_
  have h7 : Sat w₀ (FL k17 b [] [] [] * (HH b a top P S1 * (blk k1 (lnA x) 35 * F))) w6 := (FL.start h6).perm (by ac_rfl)
  obtain ⟨k'', L2, R2, hk2, h8, cl2⟩ := HH.at (h7.perm (B := HH b a top P S1 * (FL k17 b [] [] [] * (blk k1 (lnA x) 35 * F))) (by ac_rfl)) hs1.ok hp1
  rw [hk] at hk2
  cases hk2
  have h9 := obj_open h8
  obtain ⟨y, hy⟩ : ∃ y, o1.ln[n]? = some y := ⟨_, List.getElem?_eq_getElem (by rw [hln]; exact hn)⟩
  have hyd : o1.ln.getD n (0, 0) = y := by simp [List.getD, hy]
  have hyok : LinkOk y := (hs1.rng h o1 hp1).ln y (List.mem_of_getElem? hy)
  have ht9 := h9.right.left
  refine nn_ok <| ldS_ok (cell_blk h9 (i := 3) rfl) <| tab_idx (i := (n : Int)) lnF_len ht9 (by decide) (by omega) (by rw [Int.toNat_natCast]; exact hy) fun g hg => ?_
  rw [Int.toNat_natCast]
  refine tab_ldA0 lnF_len ht9 hg hy <| new_ok h9 fun k22 w7 h10 => stA_ok h10 rfl rfl (lnA_one y) fun w8 h11 => ?_
  have h12 := (h11.perm (B := blk k (oA o1 L2) T_heap_object * (tab T_api_Link 2 lnF L2.pl o1.ln.length L2.cl o1.ln * (tab T_uint64 1 fU64 L2.pi o1.inn.length L2.ci o1.inn * (R2 * (FL k17 b [] [] [] * (blk k1 (lnA x) 35 * F)) * blk k22 (lnA y) 35)))) (by
    show blk k22 (lnA y) 35 * _ = _
    ac_rfl)).drew
  refine nn_ok <| ldS_ok (cell_blk h12 (i := 3) rfl) <| ldA_blk0 (h12.right.right.right.left.right.right) rfl <| tab_idx (i := (n : Int)) lnF_len h12.right.left (by decide) (by omega) (by rw [Int.toNat_natCast]; exact hy) fun g2 hg2 => ?_
  rw [Int.toNat_natCast]
  rw [← Sp.add_zero (⟨g2, n * 2, none⟩ : Addr)]
  refine tab_stA (o := 0) (n := 2) (y' := x) (vs := lnA x) lnF_len (h12.perm (B := tab T_api_Link 2 lnF L2.pl o1.ln.length L2.cl o1.ln * (blk k (oA o1 L2) T_heap_object * (tab T_uint64 1 fU64 L2.pi o1.inn.length L2.ci o1.inn * (R2 * (FL k17 b [] [] [] * (blk k1 (lnA x) 35 * F)) * blk k22 (lnA y) 35)))) (by ac_rfl)) hg2 hy (by decide) rfl (lnA_one x) rfl fun w9 h13 => ?_
  have el : (o1.ln.set n x).length = o1.ln.length := by simp
  have h14 := cl2 { o1 with ln := o1.ln.set n x } L2 (FL k17 b [] [] [] * (blk k1 (lnA x) 35 * (blk k22 (lnA y) 35 * F))) w9 (obj_shut (by
    unfold oA
    dsimp only
    rw [el]
    exact h13.perm (by
      show _ = blk k (oA o1 L2) T_heap_object * _
      ac_rfl)))
  have h15 := h14.perm (B := FL k17 b [] [] [] * (HH b a top P (upA S1 h { o1 with ln := o1.ln.set n x }) * (blk k1 (lnA x) 35 * (blk k22 (lnA y) 35 * F)))) (by ac_rfl)
  refine ldA_blk0 (h15.right.right.right) rfl <| call_mono (heap_let_ok (x := y) h15 (hs1.slot hp1 hx) hyok (by simp) (by simp)) ?_
  rintro _ w10 ⟨rfl, h16⟩
  rw [hyd] at elay
  rw [← elay] at h16
  obtain ⟨q1, q2, q3, q4, q5⟩ := hL
  refine ⟨rfl, call_mono (heap_run_ok h16 q1 q2 (by simp; omega) (by omega)) ?_⟩
  rintro _ w11 ⟨r, P', pg, cg, pf, cf, g1, g2, g3, g4, g5, g6, rfl, h17⟩
  refine ⟨_, _, _, _, _, _, rfl, .inr ⟨rfl, r, P', pg, cg, pf, cf, g1, g2, g3, g4, g5, g6, rfl, ?_⟩⟩
  exact (h17.perm (B := (blk k1 (lnA x) 35 * blk k22 (lnA y) 35) * (tab T_uint64 1 fU64 pg r.2.1.length cg r.2.1 * (tab T_uint64 1 fU64 pf r.2.2.length cf r.2.2 * (HH b a top P' r.1 * F)))) (by ac_rfl)).right
end
end Go.Proofs.Ytgchemgnmijpdaa
