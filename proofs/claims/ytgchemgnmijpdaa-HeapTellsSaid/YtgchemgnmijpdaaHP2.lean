/- HeapPlays: an act, done to both. No conditions. -/
import Derived.Test.YtgchemgnmijpdaaHP1
set_option linter.unusedVariables false
set_option linter.unusedSimpArgs false
set_option maxRecDepth 100000
namespace Go.Proofs.Ytgchemgnmijpdaa
open Go.Sp Go.RowKit

theorem remM_inv {top : Int} {S : HS} (hs : HInv top S) {l : List Int} : (remM S l).1 = 0 → (remM S l).2.1.most = S.most := by
  intro he
  unfold remM at he ⊢
  split at he
  · cases he
  · rename_i h1
    rw [if_neg h1]
    split at he
    · cases he
    · rename_i h2
      rw [if_neg h2]
      exact (zeroL_ok l hs).2.2.1
theorem dnM_most {top : Int} {S : HS} (hs : HInv top S) {h : Int} : (dnM S h).1 = 0 → (dnM S h).2.1.most = S.most := by
  intro he
  unfold dnM at he ⊢
  split at he
  · cases he
  · exact (letM_inv (fo := []) (1, h) hs WtOk.nil).2.2.2.1
theorem putM_most {top : Int} {S : HS} (hs : HInv top S) {h slot : Int} {x : Int × Int} (hx : LinkOk x) : (putM top S h slot x).1 = 0 → (putM top S h slot x).2.1.most = S.most := by
  intro he
  unfold putM at he ⊢
  split at he
  · cases he
  · split at he
    · cases he
    · rename_i h1
      rw [if_neg h1]
      split at he
      · rename_i h2
        rw [if_pos h2]
        split at he
        · rename_i h3
          exact absurd he h3
        · rename_i h3
          rw [if_neg h3]
          exact (layM_inv (upM_inv hs).1 hx).2.2.2.1.trans (upM_inv hs).2.2
      · rename_i h2
        rw [if_neg h2]
        exact (layM_inv hs hx).2.2.2.1
def HNext (w₀ : World) (F : HP) (b hb a rb r : Nat) (top : Int) (S : HS) (gs : List Int) (w : World) : Prop :=
  ∃ S' gs', HInv top S' ∧ S'.most = S.most ∧ GOk gs' ∧ gs'.length ≤ gs.length + 1 ∧ Sat w₀ (HPr b hb a rb r top S' gs' * F) w
section
variable {w₀ w : World} {F G : HP} {b hb a rb r : Nat} {top : Int} {P Q : PM} {S : HS} {gs : List Int}
theorem rd_two {k : Nat} {x y : Int} {n : Int} (h : n = 1 ∨ n = 2) : Gives (blk k #[.int .u64 x, .int .u64 y] 29 * F) 1 (if (2 : Nat) = (0 : Int).toNat then some (⟨k, 0, none⟩ : Addr) else (some (⟨k, 0, none⟩ : Addr)).map (·.add ((0 : Int).toNat * 1))) (([x, y] : List Int).take n.toNat).length (u64L ([x, y].take n.toNat)) := by
  intro w₀ w hs
  have ep : (if (2 : Nat) = (0 : Int).toNat then some (⟨k, 0, none⟩ : Addr) else (some (⟨k, 0, none⟩ : Addr)).map (·.add ((0 : Int).toNat * 1))) = some ⟨k, 0, none⟩ := rfl
  rw [ep]
  refine ⟨by simp [u64L], fun _ => ⟨_, rfl⟩, fun ad e j u hj => ?_⟩
  cases e
  refine cell_blk hs ?_
  rcases h with rfl | rfl
  · have : j = 0 := by
      have := (List.getElem?_eq_some_iff.1 hj).1
      simp [u64L] at this
      omega
    subst this
    exact hj
  · exact (show #[Value.int .u64 x, Value.int .u64 y][j]? = some u by
      have e2 : (u64L ([x, y].take (2 : Int).toNat))[j]? = #[Value.int .u64 x, Value.int .u64 y][j]? := by
        have : u64L ([x, y].take (2 : Int).toNat) = (#[Value.int .u64 x, Value.int .u64 y] : Array Value).toList := rfl
        rw [this, Array.getElem?_toList]
      rw [← e2]
      exact hj)
theorem Pair_do_ok {x : ActD} (h : Sat w₀ (HPr b hb a rb r top S gs * F) w) (hs : HInv top S) (hg : GOk gs) (hl : gs.length ≤ 1000) (rk : I64 x.kd) (ra : I64 x.a) (rh : I64 x.h) (rx : I64 x.x) (rr : 0 ≤ x.raw ∧ x.raw ≤ 18446744073709551615) :
    call Try.prog fn_tenonlaw11_Pair_do #[.pointer (some ⟨b, 0, none⟩), .agg (acA x)] w fun v w' => v = .bool true ∧ HNext w₀ F b hb a rb r top S gs w' := by
  apply tenonlaw11_Pair_do_call
  unfold tenonlaw11_Pair_do
  refine new_ok h fun k1 w1 h1 => ?_
  have h1 : Sat w₀ (HPr b hb a rb r top S gs * (blk k1 (acA x) 47 * F)) w1 := h1.p1
  have ca : ∀ {w : World} {Y : HP}, Sat w₀ (Y * (blk k1 (acA x) 47 * F)) w → ∀ i v, (acA x)[i]? = some v → w.cell? ((⟨k1, 0, none⟩ : Addr).add i) = some v := fun h i v hv => cell_blk h.right hv
  have fin : ∀ {w : World} {P Q : PM} {p : Option Addr} {c l : Nat} {S' : HS} {gs' : List Int}, HInv top S' → S'.most = S.most → GOk gs' → gs'.length ≤ gs.length + 1 → Sat w₀ (blk b (prA hb rb p l c) T_tenonlaw11_Pair * (tab T_uint64 1 fU64 p l c gs' * (HH hb a top P S' * (RH rb r top Q S' * (blk k1 (acA x) 47 * F))))) w → l = gs'.length → HNext w₀ F b hb a rb r top S gs w :=
    fun q1 q2 q3 q4 h e => ⟨_, _, q1, q2, q3, q4, (HPr.shut (F := F) (h.perm (B := blk k1 (acA x) 47 * (blk b _ _ * (tab _ _ _ _ _ _ _ * (HH _ _ _ _ _ * (RH _ _ _ _ _ * F))))) (by ac_rfl)).right e)⟩
  refine ldI_ok (ca h1 4 _ rfl) ⟨fun n w => 0 ≤ n ∧ n ≤ 18446744073709551615 ∧ Sat w₀ (HPr b hb a rb r top S gs * (blk k1 (acA x) 47 * F)) w, br_split (fun _ => ?_) (fun _ => ⟨rr.1, rr.2, h1⟩), ?_⟩
  · refine ldI_ok (ca h1 2 _ rfl) <| call_mono (given_ok h1 hg hl rh) ?_
    rintro _ w2 ⟨g, rfl, g0, g1, _, _, h2⟩
    exact asI_ok ⟨g0, g1, h2⟩
  rintro u n w3 ⟨n0, n1, h3⟩
  obtain ⟨kk, hpk, _, _, _⟩ := tenonref01_Pick_ok x.kd 11 rk.1 rk.2 (by omega) (by omega)
  refine ldI_ok (ca h3 0 _ rfl) <| call_pure hpk <| asI_ok ⟨fun _ w => Sat w₀ (HPr b hb a rb r top S gs * (blk k1 (acA x) 47 * F)) w, br_split (fun _ => h3) (fun _ => br_split (fun _ => h3) (fun _ => h3)), ?_⟩
  rintro u bb w4 h4
  refine br_split (fun _ => ?_) (fun _ => ?_)
  -- making
  · refine ⟨fun o w => 0 ≤ o ∧ o ≤ 18446744073709551615 ∧ Sat w₀ (HPr b hb a rb r top S gs * (blk k1 (acA x) 47 * F)) w, br_split (fun _ => ⟨n0, n1, h4⟩) (fun _ => ⟨by decide, by decide, h4⟩), ?_⟩
    rintro u o w5 ⟨o0, o1, h5⟩
    obtain ⟨P, Q, p, c, h6⟩ := HPr.open_ h5.drew
    refine nn_ok <| ldP_ok (cell_blk h6 (i := 0) rfl) <| ldI_ok (ca h5.drew 1 _ rfl) <| call_mono (heap_Make_ok (slots := x.a) (outer := o) (h6.perm (B := HH hb a top P S * (blk b (prA hb rb p gs.length c) T_tenonlaw11_Pair * (tab T_uint64 1 fU64 p gs.length c gs * (RH rb r top Q S * (blk k1 (acA x) 47 * F))))) (by ac_rfl)) hs o0 o1) ?_
    rintro _ w6 ⟨rfl, P', h7⟩
    obtain ⟨hI, hM⟩ := mkM_inv hs (slots := x.a) (outer := o) ⟨o0, o1⟩
    have hpay := mkM_pay hs (slots := x.a) (outer := o)
    have h7 := h7.drew
    refine ⟨_, _, rfl, nn_ok <| ldP_ok (cell_blk h7.right (i := 1) rfl) <| ldI_ok (cell_blk h7.right.right.right.right (i := 1) rfl) <| call_mono (rh_Make_ok (slots := x.a) (outer := o) (h7.perm (B := RH rb r top Q S * (blk b (prA hb rb p gs.length c) T_tenonlaw11_Pair * (tab T_uint64 1 fU64 p gs.length c gs * (HH hb a top P' (mkM S x.a o).1 * (blk k1 (acA x) 47 * F))))) (by ac_rfl)) hs) ?_⟩
    rintro _ w7 ⟨rfl, Q', h8⟩
    generalize mkM S x.a o = q at h8 hI hM hpay ⊢
    have h9 : Sat w₀ (blk b (prA hb rb p gs.length c) T_tenonlaw11_Pair * (tab T_uint64 1 fU64 p gs.length c gs * (HH hb a top P' q.1 * (RH rb r top Q' q.1 * (blk k1 (acA x) 47 * F))))) w7 := h8.perm (by ac_rfl)
    refine ⟨_, _, rfl, br_split (fun he => ?_) (fun _ => br_true (by simp) ⟨by simp, fin hI hM hg (by omega) h9 rfl⟩)⟩
    have he : q.2.2 = 0 := by simpa using he
    obtain ⟨oo, hoo⟩ := hpay he
    have hr := pay_range hI.ok hoo
    refine nn_ok <| ldS_ok (cell_blk h9 (i := 2) rfl) <| new_ok h9 fun k32 w8 h10 => ?_
    refine tab_app u64sTy fU64_len (by decide) fU64_one (x := q.2.1) (h10.perm (B := blk k32 #[.int .u64 q.2.1] 29 * (tab T_uint64 1 fU64 p gs.length c gs * (blk b (prA hb rb p gs.length c) T_tenonlaw11_Pair * (HH hb a top P' q.1 * (RH rb r top Q' q.1 * (blk k1 (acA x) 47 * F)))))) (by ac_rfl)) rfl (by simp only [maxLen]; omega) (by omega) fun p' c' w9 h11 => ?_
    refine nn_ok <| st_ok (i := 2) (h11.perm (B := blk b (prA hb rb p gs.length c) T_tenonlaw11_Pair * (tab T_uint64 1 fU64 p' (gs.length + 1) c' (gs ++ [q.2.1]) * (HH hb a top P' q.1 * (RH rb r top Q' q.1 * (blk k1 (acA x) 47 * F))))) (by ac_rfl)) (by simp [prA]) fun w10 h12 => br_true (by simp) ⟨by simp, fin (p := p') (c := c') (l := gs.length + 1) hI hM (fun g hg' => ?_) (by simp) h12 (by simp)⟩
    rcases List.mem_append.1 hg' with hg' | hg'
    · exact hg g hg'
    · rw [List.mem_singleton] at hg'; subst hg'; omega
  refine ⟨fun _ w => Sat w₀ (HPr b hb a rb r top S gs * (blk k1 (acA x) 47 * F)) w, br_split (fun _ => h4) (fun _ => h4), ?_⟩
  rintro u bb2 w5 h5
  obtain ⟨P, Q, p, c, h6⟩ := HPr.open_ h5
  have h6h := h6.perm (B := HH hb a top P S * (blk b (prA hb rb p gs.length c) T_tenonlaw11_Pair * (tab T_uint64 1 fU64 p gs.length c gs * (RH rb r top Q S * (blk k1 (acA x) 47 * F))))) (by ac_rfl)
  refine br_split (fun _ => ?_) (fun _ => ?_)
  -- holding
  · refine nn_ok <| ldP_ok (cell_blk h6 (i := 0) rfl) <| call_mono (heap_Up_ok h6h hs n0 n1) ?_
    rintro _ w6 ⟨rfl, h7⟩
    obtain ⟨hI, _, hM⟩ := upM_inv (top := top) (h := n) hs
    refine ⟨_, _, rfl, nn_ok <| ldP_ok (cell_blk h7.right (i := 1) rfl) <| call_mono (rh_Up_ok (h := n) (h7.perm (B := RH rb r top Q S * (blk b (prA hb rb p gs.length c) T_tenonlaw11_Pair * (tab T_uint64 1 fU64 p gs.length c gs * (HH hb a top P (upM top S n).1 * (blk k1 (acA x) 47 * F))))) (by ac_rfl)) hs) ?_⟩
    rintro _ w7 ⟨rfl, h8⟩
    exact ⟨_, _, rfl, br_true (by simp) ⟨by simp, fin hI hM hg (by omega) (h8.perm (B := blk b (prA hb rb p gs.length c) T_tenonlaw11_Pair * (tab T_uint64 1 fU64 p gs.length c gs * (HH hb a top P (upM top S n).1 * (RH rb r top Q (upM top S n).1 * (blk k1 (acA x) 47 * F))))) (by ac_rfl)) rfl⟩⟩
  clear h6h
  refine ⟨fun _ w => w = w5, br_split (fun _ => rfl) (fun _ => rfl), ?_⟩
  rintro u bb3 _ rfl
  have tail : ∀ {q : Res} {w8 : World} {P' Q' : PM} {S' : HS} {gn fo : List Int} {pg cg pf cf pg' cg' pf' cf'}, HInv top S' → S'.most = S.most → gn.length ≤ 2000 → fo.length ≤ 20000 →
      Sat w₀ (tab T_uint64 1 fU64 pg' gn.length cg' gn * (tab T_uint64 1 fU64 pf' fo.length cf' fo * (RH rb r top Q' S' * (tab T_uint64 1 fU64 pg gn.length cg gn * (tab T_uint64 1 fU64 pf fo.length cf fo * (HH hb a top P' S' * (blk b (prA hb rb p gs.length c) T_tenonlaw11_Pair * (tab T_uint64 1 fU64 p gs.length c gs * (blk k1 (acA x) 47 * F))))))))) w8 →
      call Try.prog fn_tenonref01_SameLongs #[.slice pg gn.length cg, .slice pg' gn.length cg'] w8 fun v63 w18 => asB v63 fun b64 => br b64 (call Try.prog fn_tenonref01_SameLongs #[.slice pf fo.length cf, .slice pf' fo.length cf'] w18 fun v65 w19 => asB v65 fun b66 => br b66 ((fun v w' => v = Value.bool true ∧ HNext w₀ F b hb a rb r top S gs w') (.bool ((q.1 : Int) == q.1)) w19) ((fun v w' => v = Value.bool true ∧ HNext w₀ F b hb a rb r top S gs w') (.bool false) w19)) ((fun v w' => v = Value.bool true ∧ HNext w₀ F b hb a rb r top S gs w') (.bool false) w18) := by
    intro q w8 P' Q' S' gn fo pg cg pf cf pg' cg' pf' cf' hI hM hgl hfl h
    exact both_tail (R := fun v w' => v = Value.bool true ∧ HNext w₀ F b hb a rb r top S gs w') (h.perm (B := tab T_uint64 1 fU64 pg gn.length cg gn * (tab T_uint64 1 fU64 pf fo.length cf fo * (tab T_uint64 1 fU64 pg' gn.length cg' gn * (tab T_uint64 1 fU64 pf' fo.length cf' fo * (blk b (prA hb rb p gs.length c) T_tenonlaw11_Pair * (tab T_uint64 1 fU64 p gs.length c gs * (HH hb a top P' S' * (RH rb r top Q' S' * (blk k1 (acA x) 47 * F))))))))) (by ac_rfl)) hgl hfl rfl fun w' h => ⟨rfl, fin hI hM hg (by omega) h rfl⟩
  refine br_split (fun _ => ?_) (fun _ => ?_)
  -- letting go
  · have h6h := h6.perm (B := HH hb a top P S * (blk b (prA hb rb p gs.length c) T_tenonlaw11_Pair * (tab T_uint64 1 fU64 p gs.length c gs * (RH rb r top Q S * (blk k1 (acA x) 47 * F))))) (by ac_rfl)
    refine nn_ok <| ldP_ok (cell_blk h6 (i := 0) rfl) <| call_mono (heap_Down_out h6h hs n0 n1) ?_
    intro v w6 ho
    obtain ⟨S', gn, fo, P', pg, cg, pf, cf, hA, hI, hM, hgl, hfl, rfl, h7⟩ := ho.ans hs dnM_no (dnM_most hs)
    refine ⟨_, _, _, _, _, _, _, rfl, nn_ok <| ldP_ok (cell_blk h7.right.right.right (i := 1) rfl) <| call_mono (rh_Down_ok (h := n) (h7.perm (B := RH rb r top Q S * (tab T_uint64 1 fU64 pg gn.length cg gn * (tab T_uint64 1 fU64 pf fo.length cf fo * (HH hb a top P' S' * (blk b (prA hb rb p gs.length c) T_tenonlaw11_Pair * (tab T_uint64 1 fU64 p gs.length c gs * (blk k1 (acA x) 47 * F))))))) (by ac_rfl)) hs n0 n1) ?_⟩
    intro v w7 ho2
    obtain ⟨pg', cg', pf', cf', rfl, h8⟩ := ho2.ans hA
    exact ⟨_, _, _, _, _, _, _, rfl, tail hI hM hgl hfl h8⟩
  clear tail
  refine ⟨fun _ w => Sat w₀ (HPr b hb a rb r top S gs * (blk k1 (acA x) 47 * F)) w, br_split (fun _ => h5) (fun _ => h5), ?_⟩
  clear h6
  rintro u bb4 w5 h5
  refine br_split (fun _ => ?_) (fun _ => ?_)
  -- laying
  · refine ldA_blk0 (h5.right) rfl <| call_mono (link_ok h5 hg hl ra rx rr) ?_
    rintro _ w6 ⟨y, rfl, hy, h7⟩
    refine asA_ok <| new_ok h7 fun k73 w7 h8 => stA_ok h8 rfl rfl (lnA_one y) fun w8 h9 => ?_
    have h9 : Sat w₀ (HPr b hb a rb r top S gs * (blk k1 (acA x) 47 * (blk k73 (lnA y) 35 * F))) w8.drew := h9.drew.perm (by
      show blk k73 (lnA y) 35 * _ = _
      ac_rfl)
    obtain ⟨P, Q, p, c, h10⟩ := HPr.open_ h9
    have ck : ∀ {w : World} {Y : HP}, Sat w₀ (Y * (blk k1 (acA x) 47 * (blk k73 (lnA y) 35 * F))) w → ∀ i v, (acA x)[i]? = some v → w.cell? ((⟨k1, 0, none⟩ : Addr).add i) = some v := fun h i v hv => cell_blk h.right hv
    refine nn_ok <| ldP_ok (cell_blk h10 (i := 0) rfl) <| ldI_ok (ck h9 1 _ rfl) <| ldA_blk0 (h9.right.right) rfl <| call_mono (heap_Put_ok (h := n) (slot := x.a) (x := y) (h10.perm (B := HH hb a top P S * (blk b (prA hb rb p gs.length c) T_tenonlaw11_Pair * (tab T_uint64 1 fU64 p gs.length c gs * (RH rb r top Q S * (blk k1 (acA x) 47 * (blk k73 (lnA y) 35 * F)))))) (by ac_rfl)) hs hy n0 n1) ?_
    intro v w9 ho
    obtain ⟨S', gn, fo, P', pg, cg, pf, cf, hA, hI, hM, hgl, hfl, rfl, h11⟩ := ho.ans hs putM_no (putM_most hs hy)
    have h11 := h11.drew
    refine ⟨_, _, _, _, _, _, _, rfl, nn_ok <| ldP_ok (cell_blk h11.right.right.right (i := 1) rfl) <| ldI_ok (cell_blk h11.right.right.right.right.right.right (i := 1) rfl) <| ldA_blk0 (h11.right.right.right.right.right.right.right) rfl <| call_mono (rh_Put_ok (h := n) (slot := x.a) (x := y) (h11.perm (B := RH rb r top Q S * (tab T_uint64 1 fU64 pg gn.length cg gn * (tab T_uint64 1 fU64 pf fo.length cf fo * (HH hb a top P' S' * (blk b (prA hb rb p gs.length c) T_tenonlaw11_Pair * (tab T_uint64 1 fU64 p gs.length c gs * (blk k1 (acA x) 47 * (blk k73 (lnA y) 35 * F)))))))) (by ac_rfl)) hs hy) ?_⟩
    intro v w10 ho2
    obtain ⟨pg', cg', pf', cf', rfl, h12⟩ := ho2.ans hA
    refine ⟨_, _, _, _, _, _, _, rfl, both_tail (R := fun v w' => v = Value.bool true ∧ HNext w₀ F b hb a rb r top S gs w') (G := blk k73 (lnA y) 35 * (blk b (prA hb rb p gs.length c) T_tenonlaw11_Pair * (tab T_uint64 1 fU64 p gs.length c gs * (HH hb a top P' S' * (RH rb r top Q S' * (blk k1 (acA x) 47 * F)))))) (h12.perm (by ac_rfl)) hgl hfl rfl fun w' h => ⟨rfl, fin hI hM hg (by omega) h.right rfl⟩⟩
  refine br_split (fun _ => ?_) (fun _ => ?_)
  -- removing
  · have h5d := h5.drew
    refine ldI_ok (ca h5d 3 _ rfl) <| ldI_ok (ca h5d 1 _ rfl) ?_
    have hb1 := bit1 x.a
    obtain ⟨m, hm⟩ : ∃ m, m = bitw .and .i64 x.a 1 := ⟨_, rfl⟩
    rw [← hm] at hb1 ⊢
    refine arith_i64 (by omega) (by omega) <| call_mono (given_ok h5d hg hl rx) ?_
    rintro _ w6 ⟨g, rfl, g0, g1, _, _, h7⟩
    refine asI_ok ⟨ca h7 1 _ rfl, new_ok h7 fun k99 w7 h8 => slc_ok (by omega) (by omega) (by omega) ?_⟩
    have hn12 : (1 + m) = 1 ∨ (1 + m) = 2 := by omega
    obtain ⟨z, hz⟩ : ∃ z, z = 1 + m := ⟨_, rfl⟩
    rw [← hz] at hn12 ⊢
    have hlen : (([n, g] : List Int).take z.toNat).length = z.toNat - (0 : Int).toNat := by rcases hn12 with rfl | rfl <;> rfl
    rw [← hlen]
    have h8 : Sat w₀ (HPr b hb a rb r top S gs * (blk k99 #[.int .u64 n, .int .u64 g] 29 * (blk k1 (acA x) 47 * F))) w7 := h8.p1
    obtain ⟨P, Q, p, c, h9⟩ := HPr.open_ h8
    have hgiv : ∀ {X : HP}, Gives (blk k99 #[.int .u64 n, .int .u64 g] 29 * X) 1 _ (([n, g] : List Int).take z.toNat).length (u64L ([n, g].take z.toNat)) := fun {X} => rd_two (F := X) hn12
    have hlz : (([n, g] : List Int).take z.toNat).length ≤ 1000 := by rcases hn12 with rfl | rfl <;> simp
    have hrz : ∀ y ∈ ([n, g] : List Int).take z.toNat, 0 ≤ y ∧ y ≤ 18446744073709551615 := fun y hy => by
      have := List.mem_of_mem_take hy
      simp at this
      rcases this with rfl | rfl
      · exact ⟨n0, n1⟩
      · exact ⟨g0, g1⟩
    refine nn_ok <| ldP_ok (cell_blk h9 (i := 0) rfl) <| call_mono (heap_Remove_ok (l := [n, g].take z.toNat) (h9.perm (B := HH hb a top P S * (blk k99 #[.int .u64 n, .int .u64 g] 29 * (blk b (prA hb rb p gs.length c) T_tenonlaw11_Pair * (tab T_uint64 1 fU64 p gs.length c gs * (RH rb r top Q S * (blk k1 (acA x) 47 * F)))))) (by ac_rfl)) hs hgiv hlz hrz) ?_
    intro v w9 ho
    obtain ⟨S', gn, fo, P', pg, cg, pf, cf, hA, hI, hM, hgl, hfl, rfl, h11⟩ := ho.ans hs remM_no (remM_inv hs)
    refine ⟨_, _, _, _, _, _, _, rfl, nn_ok <| ldP_ok (cell_blk h11.right.right.right.right (i := 1) rfl) <| call_mono (rh_Remove_ok (l := [n, g].take z.toNat) (h11.perm (B := RH rb r top Q S * (blk k99 #[.int .u64 n, .int .u64 g] 29 * (tab T_uint64 1 fU64 pg gn.length cg gn * (tab T_uint64 1 fU64 pf fo.length cf fo * (HH hb a top P' S' * (blk b (prA hb rb p gs.length c) T_tenonlaw11_Pair * (tab T_uint64 1 fU64 p gs.length c gs * (blk k1 (acA x) 47 * F)))))))) (by ac_rfl)) hs hgiv hlz) ?_⟩
    intro v w10 ho2
    obtain ⟨pg', cg', pf', cf', rfl, h12⟩ := ho2.ans hA
    refine ⟨_, _, _, _, _, _, _, rfl, both_tail (R := fun v w' => v = Value.bool true ∧ HNext w₀ F b hb a rb r top S gs w') (G := blk k99 #[.int .u64 n, .int .u64 g] 29 * (blk b (prA hb rb p gs.length c) T_tenonlaw11_Pair * (tab T_uint64 1 fU64 p gs.length c gs * (HH hb a top P' S' * (RH rb r top Q S' * (blk k1 (acA x) 47 * F)))))) (h12.perm (by ac_rfl)) hgl hfl rfl fun w' h => ⟨rfl, fin hI hM hg (by omega) h.right rfl⟩⟩
  -- values
  · obtain ⟨P, Q, p, c, h6⟩ := HPr.open_ h5
    have h6 := h6.drew
    have h6h := h6.perm (B := HH hb a top P S * (blk b (prA hb rb p gs.length c) T_tenonlaw11_Pair * (tab T_uint64 1 fU64 p gs.length c gs * (RH rb r top Q S * (blk k1 (acA x) 47 * F))))) (by ac_rfl)
    refine nn_ok <| ldP_ok (cell_blk h6 (i := 0) rfl) <| ldI_ok (cell_blk h6.right.right.right.right (i := 3) rfl) <| call_mono (heap_Store_ok (n := x.x) h6h hs.ok n0 n1) ?_
    rintro _ w6 ⟨rfl, h7⟩
    obtain ⟨hI, _, hM⟩ := stM_inv hs (h := n) rx
    have h7r := h7.perm (B := RH rb r top Q S * (blk b (prA hb rb p gs.length c) T_tenonlaw11_Pair * (tab T_uint64 1 fU64 p gs.length c gs * (HH hb a top P (stM S n x.x).1 * (blk k1 (acA x) 47 * F))))) (by ac_rfl)
    refine asI_ok <| nn_ok <| ldP_ok (cell_blk h7.right (i := 1) rfl) <| call_mono (rh_Find_ok (h := n) h7r hs.ok) ?_
    rintro _ w7 ⟨rfl, ⟨hp, rfl⟩ | ⟨k, o, hp, hk, rfl⟩⟩
    · have e : stM S n x.x = (S, 2) := by rw [stM, hp]
      rw [e] at h7r hI hM ⊢
      exact asP_ok <| br_false rfl <| br_true rfl <| br_false rfl ⟨rfl, fin hI hM hg (by omega) (h7r.perm (B := blk b (prA hb rb p gs.length c) T_tenonlaw11_Pair * (tab T_uint64 1 fU64 p gs.length c gs * (HH hb a top P S * (RH rb r top Q S * (blk k1 (acA x) 47 * F))))) (by ac_rfl)) rfl⟩
    · have e : stM S n x.x = (upA S n { o with va := x.x }, 0) := by rw [stM, hp]
      rw [e] at h7r hI hM ⊢
      obtain ⟨k', L, R, hk', h8, cl⟩ := RH.at h7r hs.ok hp
      rw [hk] at hk'
      cases hk'
      refine asP_ok <| br_true rfl <| ldI_ok (cell_blk h7r.right.right.right.right (i := 3) rfl) <| nn_ok <| st_ok (i := 3) (rob_open h8) (by simp [rA]) fun w8 h9 => br_true rfl <| br_true rfl ⟨rfl, ?_⟩
      have h10 := cl { o with va := x.x } L _ w8 (rob_shut (q := ⟨n, k, { o with va := x.x }, L⟩) h9)
      exact fin hI hM hg (by omega) (h10.perm (B := blk b (prA hb rb p gs.length c) T_tenonlaw11_Pair * (tab T_uint64 1 fU64 p gs.length c gs * (HH hb a top P (upA S n { o with va := x.x }) * (RH rb r top Q (upA S n { o with va := x.x }) * (blk k1 (acA x) 47 * F))))) (by ac_rfl)) rfl
end
end Go.Proofs.Ytgchemgnmijpdaa
