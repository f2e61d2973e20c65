/- HeapChain: the walk. No conditions. -/
import Derived.Test.YtgchemgnmijpdaaHC1
import Derived.Test.YtgchemgnmijpdaaHAct
set_option linter.unusedVariables false
set_option linter.unusedSimpArgs false
set_option maxRecDepth 100000
namespace Go.Proofs.Ytgchemgnmijpdaa
open Go.Sp Go.RowKit

theorem hds_len (i j : Nat) : (hds i j).length = j - i := by simp [hds]
theorem hds_get {n j : Nat} (h : j < n) : (hds 0 n)[j]? = some (hd j 1) := by simp [hds, h]
theorem hds_snoc (i : Nat) : hds 0 i ++ [hd i 1] = hds 0 (i + 1) := by
  unfold hds
  rw [Nat.sub_zero, Nat.sub_zero, List.range'_concat]
  simp
theorem hds_get? (n j : Nat) : (hds 0 n)[j]? = if j < n then some (hd j 1) else none := by
  by_cases h : j < n <;> simp [hds, h]
theorem hds_take {n k : Nat} (h : k ≤ n) : (hds 0 n).take k = hds 0 k := by
  apply List.ext_getElem?
  intro j
  rw [List.getElem?_take, hds_get?, hds_get?]
  by_cases hj : j < k
  · rw [if_pos hj, if_pos (by omega), if_pos hj]
  · rw [if_neg hj, if_neg hj]
theorem hds_drop {n k : Nat} (h : k ≤ n) : (hds 0 n).drop k = hds k n := by
  unfold hds
  rw [← List.map_drop, List.drop_range']
  congr 2
  omega
section
variable {n k : Nat}
/-- The first one is held once more, or another one. -/
theorem ch_Ch {c : Nat → Int} (hn : n ≤ 100) {j : Nat} {c0 : Int} (h : ∀ m, j ≤ m → m < n → c m = if m = j then c0 else if m = k then 2 else 1) (hj : j = 0) : Ch (ch 100 (fun m => co (c m) n m) n) n k j c0 := by
  intro x o
  rw [pay_ch_iff (by decide) (by decide) (by omega)]
  constructor
  · rintro ⟨m, hm, rfl, rfl⟩
    exact ⟨m, by omega, hm, rfl, by rw [h m (by omega) hm]⟩
  · rintro ⟨m, m1, m2, rfl, rfl⟩
    exact ⟨m, m2, rfl, by rw [h m m1 m2]⟩
theorem chain_end (h0 : 0 < n) (hn : n ≤ 100) (hk : k ≤ n) {T : HS} (hT : T = ch 100 (fun m => co (if m = k then 2 else 1) n m) n) :
    (dnM T (hd 0 1)).1 = 0 ∧ ∃ S', Fall (dnM T (hd 0 1)).2.1 (dnM T (hd 0 1)).2.2.1 [] (dnM T (hd 0 1)).2.2.2 (S', hds 0 k, []) ∧ Ch S' n k k 1 := by
  have p1 : pay T (hd 0 1) = some (co (if 0 = k then 2 else 1) n 0) := by rw [hT, pay_ch (by omega) h0]
  have hok : AOk T := hT ▸ ch_ok (by decide) (by decide) (by omega)
  by_cases hz : k = 0
  · subst hz
    rw [if_pos rfl] at p1
    have e : dnM T (hd 0 1) = (0, upA T (hd 0 1) (co 1 n 0), [], []) := by
      rw [dnM, p1]
      dsimp only
      rw [letM, if_pos rfl, whole_of p1 rfl]
      dsimp only
      rw [p1]
      rfl
    rw [e]
    refine ⟨rfl, _, .done, ?_⟩
    rw [hT, up_ch (by omega) h0]
    have e2 : ch 100 (fun m => if m = 0 then co 1 n 0 else co (if m = 0 then 2 else 1) n m) n = ch 100 (fun m => co 1 n m) n := ch_congr fun j hj => by
      by_cases e : j = 0
      · subst e; rfl
      · rw [if_neg e, if_neg e]
    rw [e2]
    exact ch_Ch hn (fun m _ _ => by split <;> rfl) rfl
  · rw [if_neg (by omega)] at p1
    have e : dnM T (hd 0 1) = (0, upA T (hd 0 1) (co 0 n 0), [hd 0 1], []) := by
      rw [dnM, p1]
      dsimp only
      rw [letM, if_pos rfl, whole_of p1 rfl]
      dsimp only
      rw [p1]
      rfl
    rw [e]
    have hC : Ch (upA T (hd 0 1) (co 0 n 0)) n k 0 0 := by
      rw [hT, up_ch (by omega) h0]
      have e2 : ch 100 (fun m => if m = 0 then co 0 n 0 else co (if m = k then 2 else 1) n m) n = ch 100 (fun m => co (if m = 0 then 0 else if m = k then 2 else 1) n m) n := ch_congr fun j hj => by
        by_cases e : j = 0
        · subst e; rfl
        · rw [if_neg e, if_neg e]
      rw [e2]
      exact ch_Ch hn (fun m _ _ => rfl) rfl
    obtain ⟨S', f1, f2, f3⟩ := fall_chain hk (by omega) k 0 _ [] (by omega) (by omega) hok.up hC
    exact ⟨rfl, S', f1, f2⟩
end
theorem HeapChain_row {W : World} {n keep : Int} (hn : IntKind.i64.min ≤ n ∧ n ≤ IntKind.i64.max) (hk : IntKind.i64.min ≤ keep ∧ keep ≤ IntKind.i64.max) :
    call Try.prog fn_tenonlaw11_HeapChain #[.int .i64 n, .int .i64 keep] W fun v w' => v = .bool true ∧ Below W.heap.size W w' := by
  simp [IntKind.min, IntKind.max, IntKind.signed, IntKind.bits] at hn hk
  apply tenonlaw11_HeapChain_call
  unfold tenonlaw11_HeapChain
  have done : ∀ {w : World} {A : HP}, Sat W (A * old W) w → call Try.prog 18 #[] w fun v w' => asB v fun b => (Value.bool b) = .bool true ∧ Below W.heap.size W w' := by
    intro w A h
    refine call_mono (tenonlaw11_awake_ok h) ?_
    rintro _ w4 ⟨rfl, h4⟩
    exact asB_ok ⟨rfl, h4.right.below'⟩
  obtain ⟨q, hq, q0, ql, _⟩ := tenonref01_Pick_ok n 100 (by omega) (by omega) (by omega) (by omega)
  have ql := ql (by omega)
  refine call_pure hq <| asI_ok <| arith_i64 (by omega) (by omega) <| call_mono (heap_New_ok (top := 9) (Sat.start W) (by decide) (by decide) (by decide)) ?_
  rintro _ w2 ⟨b, a, rfl, h2⟩
  obtain ⟨N, hN⟩ : ∃ N : Nat, 1 + q = N := ⟨(1 + q).toNat, by omega⟩
  have hN0 : 0 < N := by omega
  have hN1 : N ≤ 100 := by omega
  rw [hN]
  -- the chain is made
  refine ⟨_, _, rfl, br_false rfl ⟨fun pl ll cl i w m => ∃ P, 0 ≤ i ∧ i ≤ N ∧ m = (N - i).toNat ∧ ll = i.toNat ∧ HInv 9 (ch 100 (co 1 i.toNat) i.toNat) ∧ Sat W (tab T_uint64 1 fU64 pl ll cl (hds 0 i.toNat) * (HH b a 9 P (ch 100 (co 1 i.toNat) i.toNat) * old W)) w,
    ⟨_, _, by decide, by omega, rfl, rfl, s0_inv (by decide) (by decide) (by decide) (by decide), tab_nil _ _ _ h2⟩, ?_⟩⟩
  rintro u pl ll cl i w3 m ⟨P, i0, iN, rfl, rfl, hI, h3⟩
  refine br_dec (fun hlt => ?_) (fun hge => ?_)
  · obtain ⟨j, rfl⟩ : ∃ j : Nat, i = j := ⟨i.toNat, by omega⟩
    rw [Int.toNat_natCast] at hI h3 ⊢
    have hj : j < 100 := by omega
    refine call_mono (heap_Make_ok (slots := 1) (outer := 0) (h3.perm (B := HH b a 9 P (ch 100 (co 1 j) j) * (tab T_uint64 1 fU64 pl j cl (hds 0 j) * old W)) (by ac_rfl)) hI (by decide) (by decide)) ?_
    have hI1 := (mkM_inv hI (slots := 1) (outer := 0) (by decide)).1
    rw [chain_make hj] at hI1 ⊢
    rintro _ w4 ⟨rfl, P4, h4⟩
    have ej : ((j : Int) + 1).toNat = j + 1 := by omega
    refine ⟨_, _, rfl, br_false rfl <| new_ok h4 fun k16 w5 h5 => tab_app u64sTy fU64_len (by decide) fU64_one (x := hd j 1) (h5.perm (B := blk k16 #[.int .u64 (hd j 1)] 29 * (tab T_uint64 1 fU64 pl j cl (hds 0 j) * (HH b a 9 P4 (ch 100 (fun m => if m = j then newO 1 0 else co 1 j m) (j + 1)) * old W))) (by ac_rfl)) rfl (by simp only [maxLen]; omega) (by omega) fun p' c' w6 h6 => ?_⟩
    rw [hds_snoc] at h6
    refine br_dec (fun hpos => ?_) (fun hz => ?_)
    · have hj0 : 0 < j := by omega
      have e1 : ((j : Int) - 1).toNat = j - 1 := by omega
      have hg : (hds 0 (j + 1))[((j : Int) - 1).toNat]? = some (hd (j - 1) 1) := by rw [e1]; exact hds_get (by omega)
      have hr1 := hd_range (i := j - 1) (g := 1) (by omega) (by decide) (by decide)
      have hr2 := hd_range (i := j) (g := 1) (by omega) (by decide) (by decide)
      refine arith_i64 (by omega) (by omega) <| tab_idx fU64_len h6.left (by decide) (by omega) hg fun g hgg => ldI_ok (n := hd (j - 1) 1) (by have := tab_cell fU64_len h6.left hgg hg (j := 0) (by decide) rfl; rwa [Sp.add_zero] at this) <| call_mono (heap_Put_ok (h := hd (j - 1) 1) (slot := 0) (x := (1, hd j 1)) (h6.perm (B := HH b a 9 P4 (ch 100 (fun m => if m = j then newO 1 0 else co 1 j m) (j + 1)) * (tab T_uint64 1 fU64 p' (j + 1) c' (hds 0 (j + 1)) * old W)) (by ac_rfl)) hI1 ⟨(show -9223372036854775808 ≤ (1 : Int) ∧ (1 : Int) ≤ 9223372036854775807 by decide), hr2⟩ hr1.1 hr1.2) ?_
      rw [chain_put hj0 hj]
      rintro v w7 (⟨hne, _⟩ | ⟨_, r, P7, pg, cg, pf, cf, hF, hI7, _, _, _, _, rfl, h7⟩)
      · exact absurd rfl hne
      have := Fall.nil hF
      subst this
      dsimp only at h7 hI7
      refine ⟨_, _, _, _, _, _, _, rfl, call_mono (heap_Down_out (h := hd j 1) (h7.right.right) hI7 hr2.1 hr2.2) ?_⟩
      rw [chain_down hj]
      rintro v w8 (⟨hne, _⟩ | ⟨_, r, P8, pg8, cg8, pf8, cf8, hF, hI8, _, _, _, _, rfl, h8⟩)
      · exact absurd rfl hne
      have := Fall.nil hF
      subst this
      dsimp only at h8 hI8
      refine ⟨_, _, _, _, _, _, _, rfl, arith_i64 (by omega) (by omega) ⟨_, ?_, P8, by omega, by omega, rfl, ej.symm, by rw [ej]; exact hI8, ?_⟩⟩
      · omega
      · rw [ej]
        exact h8.right.right.perm (by ac_rfl)
    · have hj0 : j = 0 := by omega
      subst hj0
      rw [chain_first] at hI1 h6
      refine arith_i64 (by omega) (by omega) ⟨_, ?_, P4, by omega, by omega, rfl, rfl, hI1, h6⟩
      omega
  · have hi : i = N := by omega
    subst hi
    rw [Int.toNat_natCast] at hI h3 ⊢
    obtain ⟨k, hk, k0, kl, _⟩ := tenonref01_Pick_ok keep ((N : Int) + 1) (by omega) (by omega) (by omega) (by omega)
    have kl := kl (by omega)
    obtain ⟨k, rfl⟩ : ∃ k' : Nat, k = k' := ⟨k.toNat, by omega⟩
    have hkN : k ≤ N := by omega
    obtain ⟨T, hT⟩ : ∃ T, T = ch 100 (fun m => co (if m = k then 2 else 1) N m) N := ⟨_, rfl⟩
    refine arith_i64 (by omega) (by omega) <| call_pure hk <| asI_ok ⟨fun w => ∃ P, HInv 9 T ∧ Sat W (tab T_uint64 1 fU64 pl N cl (hds 0 N) * (HH b a 9 P T * old W)) w, br_dec (fun hlt => ?_) (fun hge => ?_), ?_⟩
    · have hkl : k < N := by omega
      have hg : (hds 0 N)[((k : Nat) : Int).toNat]? = some (hd k 1) := by rw [Int.toNat_natCast]; exact hds_get hkl
      have hr := hd_range (i := k) (g := 1) (by omega) (by decide) (by decide)
      refine tab_idx fU64_len h3.left (by decide) (by omega) hg fun g hgg => ldI_ok (n := hd k 1) (by have := tab_cell fU64_len h3.left hgg hg (j := 0) (by decide) rfl; rwa [Sp.add_zero] at this) <| call_mono (heap_Up_ok (h := hd k 1) (h3.perm (B := HH b a 9 P (ch 100 (co 1 N) N) * (tab T_uint64 1 fU64 pl N cl (hds 0 N) * old W)) (by ac_rfl)) hI hr.1 hr.2) ?_
      have p1 : pay (ch 100 (co 1 N) N) (hd k 1) = some (co 1 N k) := pay_ch (by omega) hkl
      have eu : upM 9 (ch 100 (co 1 N) N) (hd k 1) = (T, 2, 0) := by
        rw [upM, whole_of p1 rfl]
        dsimp only
        rw [p1]
        dsimp only
        rw [if_neg (show ¬ (co 1 N k).cn = 9 from (show ¬ (1 : Int) = 9 by decide)), up_ch (by omega) hkl, hT]
        congr 1
        refine ch_congr fun j hj => ?_
        by_cases e : j = k
        · subst e; rw [if_pos rfl, if_pos rfl]; rfl
        · rw [if_neg e, if_neg e]
      have hI2 := (upM_inv (h := hd k 1) hI).1
      rw [eu] at hI2 ⊢
      rintro _ w10 ⟨rfl, h10⟩
      exact ⟨_, _, rfl, P, hI2, h10.perm (by ac_rfl)⟩
    · have e : T = ch 100 (co 1 N) N := by
        rw [hT]
        exact ch_congr fun j hj => by rw [if_neg (by omega)]
      rw [e]
      exact ⟨P, hI, h3⟩
    rintro u w11 ⟨P11, hIT, h11⟩
    have hg : (hds 0 N)[(0 : Int).toNat]? = some (hd 0 1) := hds_get hN0
    have hr := hd_range (i := 0) (g := 1) (by omega) (by decide) (by decide)
    refine tab_idx fU64_len h11.left (by decide) (by omega) hg fun g hgg => ldI_ok (n := hd 0 1) (by have := tab_cell fU64_len h11.left hgg hg (j := 0) (by decide) rfl; rwa [Sp.add_zero] at this) <| call_mono (heap_Down_out (h := hd 0 1) (h11.perm (B := HH b a 9 P11 T * (tab T_uint64 1 fU64 pl N cl (hds 0 N) * old W)) (by ac_rfl)) hIT hr.1 hr.2) ?_
    obtain ⟨d0, S', d1, d2⟩ := chain_end hN0 hN1 hkN hT
    rintro v w12 (⟨hne, _⟩ | ⟨_, r, P12, pg, cg, pf, cf, hF, hI12, _, _, _, _, rfl, h12⟩)
    · exact absurd d0 hne
    have := hF.one d1
    subst this
    dsimp only at h12 hI12 ⊢
    have h13 := (h12.perm (B := tab T_uint64 1 fU64 pl N cl (hds 0 N) * (tab T_uint64 1 fU64 pg (hds 0 k).length cg (hds 0 k) * (tab T_uint64 1 fU64 pf 0 cf [] * (HH b a 9 P12 S' * old W)))) (by
      show _ * (tab T_uint64 1 fU64 pf 0 cf [] * _) = _
      ac_rfl)).drew
    have hl0 : (hds 0 N).length = N := hds_len 0 N
    have hlk : (hds 0 k).length = k := hds_len 0 k
    have hcap := (show Sat W (own T_uint64 1 pl N cl ((hds 0 N).flatMap fU64)) _ from h13.left).own_cap
    refine ⟨_, _, _, _, _, _, _, rfl, br_true rfl <| slc_own (show Sat W (own T_uint64 1 pl N cl ((hds 0 N).flatMap fU64) * _) _ from h13) (by omega) (by omega) ?_⟩
    rw [Int.toNat_natCast]
    have r1 : Rd w12.drew 1 pg (hds 0 k).length ((hds 0 k).flatMap fU64) := Sat.rd (t := T_uint64) (c := cg) (show Sat W (own T_uint64 1 pg _ cg _) _ from h13.right.left)
    have r2 := tab_front fU64_len (by decide) h13.left (j := k) (by omega)
    rw [hds_take hkN] at r2
    refine call_reads (SameLongs_ok r1 r2 (by omega)) fun w13 hs => asB_ok <| br_true (by simp) <| br_true rfl <| slc_ok (by omega) (by omega) (by omega) ?_
    have h14 := h13.same hs
    have hall : allFrom 0 S'.sp = hds k N := all_hds hI12.ok (by omega) fun x => by
      constructor
      · rintro ⟨o, ho⟩
        obtain ⟨m, m1, m2, e, _⟩ := (d2 x o).1 ho
        exact ⟨m, m1, m2, e⟩
      · rintro ⟨m, m1, m2, rfl⟩
        exact ⟨_, d2.get m1 m2⟩
    refine call_mono (heap_all_ok (most := 999) (h14.perm (B := HH b a 9 P12 S' * (tab T_uint64 1 fU64 pl N cl (hds 0 N) * (tab T_uint64 1 fU64 pg (hds 0 k).length cg (hds 0 k) * (tab T_uint64 1 fU64 pf 0 cf [] * old W)))) (by ac_rfl)) hI12.ok (by have := hI12.most; omega)) ?_
    rintro _ w14 ⟨p', m', c', rfl, hm, h15⟩
    rw [hall] at hm h15
    have hlkN : (hds k N).length = N - k := hds_len k N
    have hm' : m' = N - k := by rw [hm, hlkN]; omega
    subst hm'
    rw [List.take_of_length_le (by omega)] at h15
    have r3 := tab_back fU64_len (by decide) h15.right.right.left (j := k) (by omega)
    rw [hds_drop hkN] at r3
    have r4 : Rd w14 1 p' (N - k) ((hds k N).flatMap fU64) := Sat.rd (t := T_uint64) (c := c') (show Sat W (own T_uint64 1 p' _ c' _) _ from h15.left)
    rw [Int.toNat_natCast, Int.toNat_natCast]
    refine asS_ok <| call_reads (SameLongs_ok r4 r3 (by omega)) fun w15 hs => asB_ok <| br_true (by simp) ?_
    exact done ((h15.same hs).perm (B := (tab T_uint64 1 fU64 p' (N - k) c' (hds k N) * (HH b a 9 P12 S' * (tab T_uint64 1 fU64 pl N cl (hds 0 N) * (tab T_uint64 1 fU64 pg (hds 0 k).length cg (hds 0 k) * tab T_uint64 1 fU64 pf 0 cf [])))) * old W) (by ac_rfl))
end Go.Proofs.Ytgchemgnmijpdaa
