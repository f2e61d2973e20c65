/- HeapInners: the walk. No conditions. -/
import Derived.Test.YtgchemgnmijpdaaHI1
set_option linter.unusedVariables false
set_option linter.unusedSimpArgs false
set_option maxRecDepth 100000
namespace Go.Proofs.Ytgchemgnmijpdaa
open Go.Sp Go.RowKit

section
open Go.ChangeShapes Go.WideShapes Go.Deep
variable {H : Type} {enc : TypeId × Value → H} {W : World} {base : Nat}
theorem open_Ints {v : Value} {d : DataW H} {ps : List MemPlace} (hv : Value.okWide Try.prog W .any base T_sl_int v) (h : DataW.Trod enc Try.prog W 0 (fun _ => true) true T_sl_int v d ps) :
    ∃ (p : Option Addr) (l c : Nat) (zs : List Int), v = .slice p l c ∧ l ≤ 9223372036854775807 ∧ Rd W 1 p l (zs.map fun n => .int .i64 n) ∧ ∀ n ∈ zs, -9223372036854775808 ≤ n ∧ n ≤ 9223372036854775807 := by
  obtain ⟨p0, l0, c0, rfl⟩ := okWide_slice Try.underlying43 hv
  obtain ⟨fuel, h⟩ := h
  have hf : Try.prog.info? T_int = some (Try.prog.types[T_int]'(of_decide_eq_true (by kernel_rfl))) := by kernel_rfl
  obtain ⟨p, l, c, zs, e, hlc, hc, hrd, hrg⟩ := open_nums Try.underlying43 hf (by kernel_rfl) Try.underlying3 h
  cases e
  exact ⟨p0, l0, c0, zs, rfl, by simp only [maxLen] at hc; omega, hrd, fun n hn => by have := hrg n hn; simpa [IntKind.min, IntKind.max, IntKind.signed, IntKind.bits] using this⟩
end
theorem HeapInners_row {W : World} {n : Int} {v : Value} (hn : IntKind.u8.min ≤ n ∧ n ≤ IntKind.u8.max) (h : ∃ (p : Option Addr) (l c : Nat) (zs : List Int), v = .slice p l c ∧ l ≤ 9223372036854775807 ∧ Rd W 1 p l (zs.map fun n => .int .i64 n) ∧ ∀ n ∈ zs, -9223372036854775808 ≤ n ∧ n ≤ 9223372036854775807) :
    call Try.prog fn_tenonlaw11_HeapInners #[.int .u8 n, v] W fun v w' => v = .bool true ∧ Below W.heap.size W w' := by
  simp [IntKind.min, IntKind.max, IntKind.signed, IntKind.bits] at hn
  obtain ⟨p, l, c, zs, rfl, hl, hx, hz⟩ := h
  have hzl : zs.length = l := by have := hx.1; simpa using this
  apply tenonlaw11_HeapInners_call
  unfold tenonlaw11_HeapInners
  have done : ∀ {w : World} {A : HP}, Sat W (A * old W) w → call Try.prog 18 #[] w fun v w' => asB v fun b => (Value.bool b) = .bool true ∧ Below W.heap.size W w' := by
    intro w A h
    refine call_mono (tenonlaw11_awake_ok h) ?_
    rintro _ w4 ⟨rfl, h4⟩
    exact asB_ok ⟨rfl, h4.right.below'⟩
  -- a number of the list
  have up_at : ∀ {w : World} {A : HP} {i : Int} {K : Addr → Prop}, Sat W (A * old W) w → 0 ≤ i → i < l → (∀ ad x, zs[i.toNat]? = some x → (-9223372036854775808 ≤ x ∧ x ≤ 9223372036854775807) → (∀ {K : Int → Prop}, K x → ldI .i64 ad w K) → K ad) → idx p l i 1 K := by
    intro w A i K hs i0 il hk
    have hi : i.toNat < zs.length := by omega
    have hxi : zs[i.toNat]? = some zs[i.toNat] := by simp [hi]
    have rd := hx.old hs.right
    refine idx_ok rd i0 il fun ad had => hk _ _ hxi (hz _ (List.getElem_mem hi)) fun hK => ldI_ok ?_ hK
    rw [Nat.mul_one]
    exact rd.get had (by rw [List.getElem?_map, hxi]; rfl)
  refine call_mono (heap_New_ok (top := 99) (Sat.start W) (by decide) (by decide) (by decide)) ?_
  rintro _ w1 ⟨b, a, rfl, h1⟩
  have hI0 : HInv 99 (ch 40 (io 1 0) 0) := s0_inv (most := 40) (by decide) (by decide) (by decide) (by decide)
  refine ⟨_, _, rfl, call_mono (heap_Make_ok (slots := 0) (outer := 0) (S := ch 40 (io 1 0) 0) h1 hI0 (by decide) (by decide)) ?_⟩
  have hI1 := (mkM_inv hI0 (slots := 0) (outer := 0) (by decide)).1
  rw [inner_first] at hI1 ⊢
  rintro _ w2 ⟨rfl, P2, h2⟩
  refine ⟨_, _, rfl, br_false rfl <| br_false rfl <| new_ok h2 fun k7 w3 h3 => ?_⟩
  have h3 : Sat W (tab T_uint64 1 fU64 (some ⟨k7, 0, none⟩) 1 1 (hds 0 1) * (HH b a 99 P2 (ch 40 (io 1 0) 1) * old W)) w3 := h3.own_full (t := T_uint64) (sz := 1) (n := 1) rfl (by decide)
  obtain ⟨M, hM⟩ : ∃ M : Nat, n % 30 = M := ⟨(n % 30).toNat, by omega⟩
  have hM29 : M ≤ 29 := by omega
  have hr0 := hd_range (i := 0) (g := 1) (by omega) (by decide) (by decide)
  -- the inners are made
  refine ⟨fun pl ll cl i w m => ∃ P, 0 ≤ i ∧ i ≤ M ∧ m = (M - i).toNat ∧ ll = i.toNat + 1 ∧ HInv 99 (ch 40 (io 1 i.toNat) (i.toNat + 1)) ∧ Sat W (tab T_uint64 1 fU64 pl ll cl (hds 0 (i.toNat + 1)) * (HH b a 99 P (ch 40 (io 1 i.toNat) (i.toNat + 1)) * old W)) w, ⟨_, _, by decide, by omega, rfl, rfl, hI1, h3⟩, ?_⟩
  rintro u pl ll cl i w4 m ⟨P, i0, iM, rfl, rfl, hI, h4⟩
  refine rem_ok (by omega) (by omega) <| arith_i64 (by omega) (by omega) ?_
  rw [hM]
  refine br_dec (fun hlt => ?_) (fun hge => ?_)
  · obtain ⟨j, rfl⟩ : ∃ j : Nat, i = j := ⟨i.toNat, by omega⟩
    rw [Int.toNat_natCast] at hI h4 ⊢
    refine call_mono (heap_Make_ok (slots := 1) (outer := hd 0 1) (h4.perm (B := HH b a 99 P (ch 40 (io 1 j) (j + 1)) * (tab T_uint64 1 fU64 pl (j + 1) cl (hds 0 (j + 1)) * old W)) (by ac_rfl)) hI hr0.1 hr0.2) ?_
    have hI5 := (mkM_inv hI (slots := 1) (outer := hd 0 1) hr0).1
    rw [inner_make (by omega)] at hI5 ⊢
    rintro _ w5 ⟨rfl, P5, h5⟩
    have hrj := hd_range (i := j + 1) (g := 1) (by omega) (by decide) (by decide)
    refine ⟨_, _, rfl, br_false rfl <| call_mono (heap_Make_ok (slots := 1) (outer := hd (j + 1) 1) h5 hI5 hrj.1 hrj.2) ?_⟩
    rw [inner_no (by omega) (Nat.le_refl _) (by omega)]
    rintro _ w6 ⟨rfl, P6, h6⟩
    have ej : ((j : Int) + 1).toNat = j + 1 := by omega
    refine ⟨_, _, rfl, br_false rfl <| new_ok h6 fun k22 w7 h7 => tab_app u64sTy fU64_len (by decide) fU64_one (x := hd (j + 1) 1) (h7.perm (B := blk k22 #[.int .u64 (hd (j + 1) 1)] 29 * (tab T_uint64 1 fU64 pl (j + 1) cl (hds 0 (j + 1)) * (HH b a 99 P6 (ch 40 (io 1 (j + 1)) (j + 2)) * old W))) (by ac_rfl)) rfl (by simp only [maxLen]; omega) (by omega) fun p' c' w8 h8 => ?_⟩
    rw [hds_snoc] at h8
    refine arith_i64 (by omega) (by omega) ⟨_, ?_, P6, by omega, by omega, rfl, by rw [ej], by rw [ej]; exact hI5, by rw [ej]; exact h8⟩
    omega
  have hiM : i = M := by omega
  subst hiM
  rw [Int.toNat_natCast] at hI h4 ⊢
  clear hge i0 iM
  have hll : (hds 0 (M + 1)).length = M + 1 := hds_len 0 (M + 1)
  -- a handle of them
  have pick : ∀ {w : World} {x : Int} {A : HP} {K : Int → Prop}, Sat W (tab T_uint64 1 fU64 pl (M + 1) cl (hds 0 (M + 1)) * A) w → (-9223372036854775808 ≤ x ∧ x ≤ 9223372036854775807) → (∀ q, q ≤ M → K (hd q 1)) →
      call Try.prog 10 #[.int .i64 x, .int .i64 (((M + 1 : Nat) : Int))] w fun v35 w10 => asI .i64 v35 fun n36 => idx pl (M + 1) n36 1 fun a37 => ldI .u64 a37 w10 fun n38 => w10 = w ∧ K n38 := by
    intro w x A K hs hxr hK
    obtain ⟨k, hk, k0, kl, _⟩ := tenonref01_Pick_ok x (((M + 1 : Nat) : Int)) hxr.1 hxr.2 (by omega) (by omega)
    have kl := kl (by omega)
    have hg : (hds 0 (M + 1))[k.toNat]? = some (hd k.toNat 1) := hds_get (by omega)
    exact call_pure hk <| asI_ok <| tab_idx fU64_len hs.left (by decide) k0 hg fun g hgg => ldI_ok (n := hd k.toNat 1) (by have := tab_cell fU64_len hs.left hgg hg (j := 0) (by decide) rfl; rwa [Sp.add_zero] at this) ⟨rfl, hK _ (by omega)⟩
  refine ⟨fun many w => ∃ P, 0 ≤ many ∧ many ≤ 50 ∧ many ≤ l ∧ HInv 99 (ch 40 (io (1 + many) M) (M + 1)) ∧ Sat W (tab T_uint64 1 fU64 pl (M + 1) cl (hds 0 (M + 1)) * (HH b a 99 P (ch 40 (io (1 + many) M) (M + 1)) * old W)) w, ?_, ?_⟩
  · refine ⟨fun many i w m => ∃ P, many = i ∧ 0 ≤ i ∧ i ≤ 50 ∧ i ≤ l ∧ m = (50 - i).toNat ∧ HInv 99 (ch 40 (io (1 + many) M) (M + 1)) ∧ Sat W (tab T_uint64 1 fU64 pl (M + 1) cl (hds 0 (M + 1)) * (HH b a 99 P (ch 40 (io (1 + many) M) (M + 1)) * old W)) w, ⟨_, P, rfl, by decide, by decide, by omega, rfl, hI, h4⟩, ?_⟩
    rintro u many i w9 m ⟨P9, rfl, i0, i50, il, rfl, hI9, h9⟩
    refine br_dec (fun hlt => br_dec (fun hlt50 => ?_) (fun _ => ⟨P9, i0, i50, il, hI9, h9⟩)) (fun _ => ⟨P9, i0, i50, il, hI9, h9⟩)
    refine up_at (h9.perm (B := (tab T_uint64 1 fU64 pl (M + 1) cl (hds 0 (M + 1)) * HH b a 99 P9 (ch 40 (io (1 + many) M) (M + 1))) * old W) (by ac_rfl)) i0 hlt fun ad x hxi hxr ld => ld ?_
    obtain ⟨k, hk, k0, kl, _⟩ := tenonref01_Pick_ok x (((M + 1 : Nat) : Int)) hxr.1 hxr.2 (by omega) (by omega)
    have kl := kl (by omega)
    have hg : (hds 0 (M + 1))[k.toNat]? = some (hd k.toNat 1) := hds_get (by omega)
    have hrk := hd_range (i := k.toNat) (g := 1) (by omega) (by decide) (by decide)
    refine call_pure hk <| asI_ok <| tab_idx fU64_len h9.left (by decide) k0 hg fun g hgg => ldI_ok (n := hd k.toNat 1) (by have := tab_cell fU64_len h9.left hgg hg (j := 0) (by decide) rfl; rwa [Sp.add_zero] at this) <| call_mono (heap_Up_ok (h := hd k.toNat 1) (h9.perm (B := HH b a 99 P9 (ch 40 (io (1 + many) M) (M + 1)) * (tab T_uint64 1 fU64 pl (M + 1) cl (hds 0 (M + 1)) * old W)) (by ac_rfl)) hI9 hrk.1 hrk.2) ?_
    have hI10 := (upM_inv (h := hd k.toNat 1) hI9).1
    rw [inner_up (by omega) (by omega) (by omega), Int.add_assoc] at hI10 ⊢
    rintro _ w11 ⟨rfl, h11⟩
    refine ⟨1 + (many + 1), 0, rfl, arith_i64 (by omega) (by omega) <| br_false rfl <| arith_i64 (by omega) (by omega) <| arith_i64 (by omega) (by omega) <| br_false (by simp) <| arith_i64 (by omega) (by omega) ⟨_, ?_, P9, rfl, by omega, by omega, by omega, rfl, hI10, h11.perm (by ac_rfl)⟩⟩
    omega
  rintro u many w12 ⟨P12, m0, m50, ml, hI12, h12⟩
  -- and let go
  refine ⟨fun i w m => ∃ P, 0 ≤ i ∧ i ≤ many ∧ m = (many - i).toNat ∧ HInv 99 (ch 40 (io (1 + many - i) M) (M + 1)) ∧ Sat W (tab T_uint64 1 fU64 pl (M + 1) cl (hds 0 (M + 1)) * (HH b a 99 P (ch 40 (io (1 + many - i) M) (M + 1)) * old W)) w, ⟨_, P12, by decide, m0, rfl, by rw [Int.sub_zero]; exact hI12, by rw [Int.sub_zero]; exact h12⟩, ?_⟩
  rintro u i w13 m ⟨P13, i0, im, rfl, hI13, h13⟩
  refine br_dec (fun hlt => ?_) (fun hge => ?_)
  · refine arith_i64 (by omega) (by omega) <| arith_i64 (by omega) (by omega) <| up_at (h13.perm (B := (tab T_uint64 1 fU64 pl (M + 1) cl (hds 0 (M + 1)) * HH b a 99 P13 (ch 40 (io (1 + many - i) M) (M + 1))) * old W) (by ac_rfl)) (by omega) (by omega) fun ad x hxi hxr ld => ld ?_
    obtain ⟨k, hk, k0, kl, _⟩ := tenonref01_Pick_ok x (((M + 1 : Nat) : Int)) hxr.1 hxr.2 (by omega) (by omega)
    have kl := kl (by omega)
    have hg : (hds 0 (M + 1))[k.toNat]? = some (hd k.toNat 1) := hds_get (by omega)
    have hrk := hd_range (i := k.toNat) (g := 1) (by omega) (by decide) (by decide)
    refine call_pure hk <| asI_ok <| tab_idx fU64_len h13.left (by decide) k0 hg fun g hgg => ldI_ok (n := hd k.toNat 1) (by have := tab_cell fU64_len h13.left hgg hg (j := 0) (by decide) rfl; rwa [Sp.add_zero] at this) <| call_mono (heap_Down_out (h := hd k.toNat 1) (h13.perm (B := HH b a 99 P13 (ch 40 (io (1 + many - i) M) (M + 1)) * (tab T_uint64 1 fU64 pl (M + 1) cl (hds 0 (M + 1)) * old W)) (by ac_rfl)) hI13 hrk.1 hrk.2) ?_
    rw [inner_let (by omega) (by omega) (by omega), if_neg (by omega), show 1 + many - i - 1 = 1 + many - (i + 1) by omega]
    rintro v w15 (⟨hne, _⟩ | ⟨_, r, P15, pg, cg, pf, cf, hF, hI15, _, _, _, _, rfl, h15⟩)
    · exact absurd rfl hne
    have := Fall.nil hF
    subst this
    dsimp only at h15 hI15 ⊢
    refine ⟨_, _, _, _, _, _, _, rfl, br_false rfl <| br_false rfl <| arith_i64 (by omega) (by omega) ⟨_, ?_, P15, by omega, by omega, rfl, hI15, h15.right.right.perm (by ac_rfl)⟩⟩
    omega
  · have him : i = many := by omega
    subst him
    rw [show 1 + i - i = 1 by omega] at hI13 h13
    have hg : (hds 0 (M + 1))[((((M + 1 : Nat) : Int)) - 1).toNat]? = some (hd M 1) := by rw [show ((((M + 1 : Nat) : Int)) - 1).toNat = M by omega]; exact hds_get (by omega)
    have hrM := hd_range (i := M) (g := 1) (by omega) (by decide) (by decide)
    refine arith_i64 (by omega) (by omega) <| tab_idx fU64_len h13.left (by decide) (by omega) hg fun g hgg => ldI_ok (n := hd M 1) (by have := tab_cell fU64_len h13.left hgg hg (j := 0) (by decide) rfl; rwa [Sp.add_zero] at this) <| call_mono (heap_Down_out (h := hd M 1) (h13.perm (B := HH b a 99 P13 (ch 40 (io 1 M) (M + 1)) * (tab T_uint64 1 fU64 pl (M + 1) cl (hds 0 (M + 1)) * old W)) (by ac_rfl)) hI13 hrM.1 hrM.2) ?_
    rw [inner_let (by omega) (Nat.le_refl _) (by decide), if_pos rfl, show (1 : Int) - 1 = 0 from rfl]
    obtain ⟨S', d1, d2⟩ := inner_fall (j := M) (by omega)
    rintro v w16 (⟨hne, _⟩ | ⟨_, r, P16, pg, cg, pf, cf, hF, hI16, _, _, _, _, rfl, h16⟩)
    · exact absurd rfl hne
    have := hF.one d1
    subst this
    dsimp only at h16 hI16 ⊢
    rw [hll] at h16 ⊢
    have r1 : Rd w16 1 pg (M + 1) ((hds 0 (M + 1)).flatMap fU64) := Sat.rd (t := T_uint64) (c := cg) (show Sat W (own T_uint64 1 pg _ cg _) _ from h16.left)
    have r2 : Rd w16 1 pl (M + 1) ((hds 0 (M + 1)).flatMap fU64) := Sat.rd (t := T_uint64) (c := cl) (show Sat W (own T_uint64 1 pl _ cl _) _ from h16.right.right.right.left)
    refine ⟨_, _, _, _, _, _, _, rfl, br_true rfl <| call_reads (SameLongs_ok r1 r2 (by omega)) fun w17 hs => asB_ok <| br_true (by simp) ?_⟩
    have h17 := h16.same hs
    have hnone : allFrom 0 S'.sp = [] := by
      apply List.eq_nil_iff_forall_not_mem.2
      intro x hx
      obtain ⟨o, ho⟩ := (pay_all hI16.ok).2 hx
      rw [d2] at ho
      cases ho
    refine call_mono (heap_all_ok (most := 9) (h17.perm (B := HH b a 99 P16 S' * (tab T_uint64 1 fU64 pl (M + 1) cl (hds 0 (M + 1)) * (tab T_uint64 1 fU64 pg (M + 1) cg (hds 0 (M + 1)) * (tab T_uint64 1 fU64 pf ([] : List Int).length cf [] * old W)))) (by ac_rfl)) hI16.ok (by have := hI16.most; omega)) ?_
    rintro _ w18 ⟨p', m', c', rfl, hm, h18⟩
    rw [hnone] at hm
    have : m' = 0 := by simpa using hm
    subst this
    exact asS_ok <| br_true rfl <| done (h18.perm (B := (tab T_uint64 1 fU64 p' 0 c' ((allFrom 0 S'.sp).take 0) * (HH b a 99 P16 S' * (tab T_uint64 1 fU64 pl (M + 1) cl (hds 0 (M + 1)) * (tab T_uint64 1 fU64 pg (M + 1) cg (hds 0 (M + 1)) * tab T_uint64 1 fU64 pf ([] : List Int).length cf [])))) * old W) (by ac_rfl))
end Go.Proofs.Ytgchemgnmijpdaa
