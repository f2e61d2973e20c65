/- HeapCounts: the walk. No conditions. -/
import Derived.Test.YtgchemgnmijpdaaHK2
set_option linter.unusedVariables false
set_option linter.unusedSimpArgs false
set_option maxRecDepth 100000
namespace Go.Proofs.Ytgchemgnmijpdaa
open Go.Sp Go.RowKit

theorem updI_le {out : Int → Int} {n m h v : Int} (h1 : ∀ x, out x ≤ n) (hv : v ≤ m) (hm : n ≤ m) : ∀ x, updI out h v x ≤ m := fun x => by
  unfold updI
  split
  · exact hv
  · have := h1 x; omega
theorem ci_start {most : Int} (h0 : 1 ≤ most) (h1 : most ≤ 256) : CI (s0 most) [] (fun _ => 0) [] := by
  have none_ : ∀ h o, pay (s0 most) h = some o → False := fun h o hp => by rw [s0_pay] at hp; cases hp
  exact ⟨s0_inv h0 h1 (by decide) (by decide), fun h o hp => (none_ h o hp).elim, fun h o hp => (none_ h o hp).elim, fun h o hp => (none_ h o hp).elim, fun h o hp => (none_ h o hp).elim, fun h o hp => (none_ h o hp).elim, fun h o hp => (none_ h o hp).elim, (fun x hx => by cases hx), fun _ _ => rfl, fun _ => Int.le_refl _, List.nodup_nil, (fun h hh => by cases hh)⟩
/-- What holds at each round. -/
def KI (W : World) (b a : Nat) (p10 : Option Addr) (l10 c10 : Nat) (p11 : Option Addr) (l11 c11 : Nat) (n : Int) (w : World) (m : Nat) : Prop :=
  ∃ S P H out, 0 ≤ n ∧ n ≤ 80 ∧ m = (80 - n).toNat ∧ l10 = H.length ∧ l11 = H.length ∧ CI S H out [] ∧ S.most ≤ 256 ∧ (H.length : Int) ≤ n ∧ (∀ x, out x ≤ n) ∧ Sat W (tab T_uint64 1 fU64 p10 l10 c10 H * (tab T_int 1 fInt p11 l11 c11 (H.map out) * (HH b a 1048576 P S * old W))) w
theorem HeapCounts_walk {W : World} {x0 : Int} {p : Option Addr} {l c : Nat} {xs : List ActD} (hx0 : I64 x0) (hx : Acts W p l xs) (hl : l ≤ 9223372036854775807) :
    call Try.prog fn_tenonlaw11_HeapCounts #[.int .i64 x0, .slice p l c] W fun v w' => v = .bool true ∧ Below W.heap.size W w' := by
  apply tenonlaw11_HeapCounts_call
  unfold tenonlaw11_HeapCounts
  have done : ∀ {w : World} {A : HP}, Sat W (A * old W) w → call Try.prog 18 #[] w fun v w' => asB v fun b => (Value.bool b) = .bool true ∧ Below W.heap.size W w' := by
    intro w A h
    refine call_mono (tenonlaw11_awake_ok h) ?_
    rintro _ w4 ⟨rfl, h4⟩
    exact asB_ok ⟨rfl, h4.right.below'⟩
  obtain ⟨k0, hk0, k00, k01, _⟩ := tenonref01_Pick_ok x0 30 hx0.1 hx0.2 (by omega) (by omega)
  have k01 := k01 (by omega)
  refine call_pure hk0 <| asI_ok <| arith_i64 (by omega) (by omega) <| call_mono (heap_New_ok (top := 1048576) (most := 1 + k0) (Sat.start W) (by omega) (by omega) (by decide)) ?_
  rintro _ w1 ⟨b, a, rfl, h1⟩
  refine ⟨_, _, rfl, br_false rfl ⟨KI W b a, ⟨_, s0 (1 + k0), _, [], fun _ => 0, by decide, by decide, rfl, rfl, rfl, ci_start (by omega) (by omega), by show 1 + k0 ≤ 256; omega, by decide, fun _ => Int.le_refl _, tab_nil _ _ _ (tab_nil _ _ _ h1)⟩, ?_⟩⟩
  rintro u pH _ cH pO _ cO n w2 m ⟨S, P, H, out, n0, n80, rfl, rfl, rfl, hc, hM, hHn, hon, h2⟩
  have fin : ∀ {w : World}, Sat W (tab T_uint64 1 fU64 pH H.length cH H * (tab T_int 1 fInt pO H.length cO (H.map out) * (HH b a 1048576 P S * old W))) w → call Try.prog 18 #[] w fun v w' => asB v fun b => (Value.bool b) = .bool true ∧ Below W.heap.size W w' := fun h =>
    done (A := tab T_uint64 1 fU64 pH H.length cH H * (tab T_int 1 fInt pO H.length cO (H.map out) * HH b a 1048576 P S)) (h.perm (by ac_rfl))
  refine br_dec (fun hlt => br_dec (fun hlt80 => ?_) (fun _ => fin h2)) (fun _ => fin h2)
  clear fin
  refine hx.idx h2.right.right.right n0 hlt fun ad x hxx rk ra rh rx rr ld => ld <| new_ok h2 fun k16 w4 h4 => stA_ok h4 rfl rfl (acA_one x) fun w5 h5 => ?_
  have h5 : Sat W (blk k16 (acA x) 47 * (tab T_uint64 1 fU64 pH H.length cH H * (tab T_int 1 fInt pO H.length cO (H.map out) * (HH b a 1048576 P S * old W)))) w5 := h5
  have cx : ∀ {w : World} {X : HP}, Sat W (blk k16 (acA x) 47 * X) w → ∀ i v, (acA x)[i]? = some v → w.cell? ((⟨k16, 0, none⟩ : Addr).add i) = some v := fun h i v hv => cell_blk h hv
  refine ⟨fun bb w => (bb = false → 0 < H.length) ∧ Sat W (blk k16 (acA x) 47 * (tab T_uint64 1 fU64 pH H.length cH H * (tab T_int 1 fInt pO H.length cO (H.map out) * (HH b a 1048576 P S * old W)))) w, br_split (fun _ => ⟨(fun h => by cases h), h5⟩) (fun hne => ldI_ok (cx h5 0 _ rfl) ⟨fun _ => ?_, h5⟩), ?_⟩
  · have hne : ¬ ((H.length : Nat) : Int) = 0 := by simpa using hne
    omega
  rintro u bb w6 ⟨hbb, h6⟩
  refine br_split (fun _ => ?_) (fun hbf => ?_)
  -- one is made
  · refine call_mono (heap_Make_ok (slots := 2) (outer := 0) (h6.perm (B := HH b a 1048576 P S * (blk k16 (acA x) 47 * (tab T_uint64 1 fU64 pH H.length cH H * (tab T_int 1 fInt pO H.length cO (H.map out) * old W)))) (by ac_rfl)) hc.inv (by decide) (by decide)) ?_
    have em : mkM S 2 0 = put S (newO 2 0) := rfl
    rw [em]
    rintro _ w7 ⟨rfl, P', h7⟩
    refine ⟨_, _, rfl, br_split (fun he => ?_) (fun he => ?_)⟩
    · have he : (put S (newO 2 0)).2.2 = 0 := by simpa using he
      obtain ⟨hc2, hM2⟩ := hc.make he
      have hnot : ∀ y ∈ H, y ≠ (put S (newO 2 0)).2.1 := fun y hy e => ((hc.was y hy).put hc.inv.ok (x := newO 2 0)).2 he e.symm
      generalize put S (newO 2 0) = q at h7 hc2 hM2 hnot he ⊢
      have hmap : (H ++ [q.2.1]).map (updI out q.2.1 1) = H.map out ++ [1] := by
        rw [List.map_append]
        congr 1
        · apply List.map_congr_left
          intro y hy
          rw [updI, if_neg (hnot y hy)]
        · simp [updI]
      refine new_ok h7 fun k24 w8 h8 => tab_app u64sTy fU64_len (by decide) fU64_one (x := q.2.1) (h8.perm (B := blk k24 #[.int .u64 q.2.1] 29 * (tab T_uint64 1 fU64 pH H.length cH H * (tab T_int 1 fInt pO H.length cO (H.map out) * (HH b a 1048576 P' q.1 * (blk k16 (acA x) 47 * old W))))) (by ac_rfl)) rfl (by simp only [maxLen]; omega) (by omega) fun p' c' w9 h9 => ?_
      refine new_ok h9 fun k26 w10 h10 => tab_app intsTy fInt_len (by decide) fInt_one (x := 1) (h10.perm (B := blk k26 #[.int .i64 1] 3 * (tab T_int 1 fInt pO H.length cO (H.map out) * (tab T_uint64 1 fU64 p' (H.length + 1) c' (H ++ [q.2.1]) * (HH b a 1048576 P' q.1 * (blk k16 (acA x) 47 * old W))))) (by ac_rfl)) rfl (by simp only [maxLen]; omega) (by omega) fun p'' c'' w11 h11 => ?_
      refine arith_i64 (by omega) (by omega) ⟨(80 - (n + 1)).toNat, by omega, q.1, P', H ++ [q.2.1], updI out q.2.1 1, by omega, by omega, rfl, by simp, by simp, hc2, by omega, by simp; omega, updI_le hon (by omega) (by omega), ?_⟩
      rw [hmap]
      exact (h11.perm (B := blk k16 (acA x) 47 * (tab T_uint64 1 fU64 p' (H.length + 1) c' (H ++ [q.2.1]) * (tab T_int 1 fInt p'' (H.length + 1) c'' (H.map out ++ [1]) * (HH b a 1048576 P' q.1 * old W)))) (by ac_rfl)).right
    · have he : (put S (newO 2 0)).2.2 ≠ 0 := by simpa using he
      rw [put_same hc.inv.ok he] at h7
      exact arith_i64 (by omega) (by omega) ⟨(80 - (n + 1)).toNat, by omega, S, P', H, out, by omega, by omega, rfl, rfl, rfl, hc, hM, by omega, fun y => by have := hon y; omega, (h7.perm (B := blk k16 (acA x) 47 * (tab T_uint64 1 fU64 pH H.length cH H * (tab T_int 1 fInt pO H.length cO (H.map out) * (HH b a 1048576 P' S * old W)))) (by ac_rfl)).right⟩
  -- something is done to one
  have hpos := hbb hbf
  obtain ⟨k, hk, kk0, kk1, _⟩ := tenonref01_Pick_ok x.h (H.length : Int) rh.1 rh.2 (by omega) (by omega)
  have kk1 := kk1 (by omega)
  obtain ⟨h, hh⟩ : ∃ h, H[k.toNat]? = some h := ⟨H[k.toNat]'(by omega), by simp⟩
  have hhm := List.mem_of_getElem? hh
  have hhr := (hc.was h hhm).range hc.inv.ok
  have hho : (H.map out)[k.toNat]? = some (out h) := by rw [List.getElem?_map, hh]; rfl
  have hoh := hon h
  have hoh0 := hc.out0 h
  have hsmall := hc.small hon hHn n80
  have rdH : ∀ {w : World} {X : HP} {j : Nat} {y : Int} {K : Int → Prop} {g : Nat}, Sat W (tab T_uint64 1 fU64 pH H.length cH H * X) w → pH = some ⟨g, 0, none⟩ → H[j]? = some y → K y → ldI .u64 (⟨g, j * 1, none⟩ : Addr) w K := fun ht hg hy hK =>
    ldI_ok (by have := tab_cell fU64_len ht.left hg hy (j := 0) (by decide) rfl; rwa [Sp.add_zero] at this) hK
  have rdO : ∀ {w : World} {X : HP} {j : Nat} {y : Int} {K : Int → Prop} {g : Nat}, Sat W (tab T_int 1 fInt pO H.length cO (H.map out) * X) w → pO = some ⟨g, 0, none⟩ → (H.map out)[j]? = some y → K y → ldI .i64 (⟨g, j * 1, none⟩ : Addr) w K := fun ht hg hy hK =>
    ldI_ok (by have := tab_cell fInt_len ht.left hg hy (j := 0) (by decide) rfl; rwa [Sp.add_zero] at this) hK
  have tail : ∀ {w : World} {S' : HS} {P' : PM} {out' : Int → Int}, CI S' H out' [] → S'.most ≤ 256 → (∀ y, out' y ≤ n + 1) → Sat W (tab T_uint64 1 fU64 pH H.length cH H * (tab T_int 1 fInt pO H.length cO (H.map out') * (HH b a 1048576 P' S' * (blk k16 (acA x) 47 * old W)))) w →
      call Try.prog fn_tenonlaw11_counted #[.pointer (some ⟨b, 0, none⟩), .slice pH H.length cH, .slice pO H.length cO] w fun v47 w15 => asB v47 fun b48 => br (!b48) ((fun v w' => v = Value.bool true ∧ Below W.heap.size W w') (.bool false) w15) (arith .i64 (n + 1) fun n49 => ∃ m50, m50 < (80 - n).toNat ∧ KI W b a pH H.length cH pO H.length cO n49 w15 m50) := by
    intro w S' P' out' hc' hM' ho' h
    refine call_mono (counted_ok h hc' (by omega) (fun y => by have := ho' y; omega)) ?_
    rintro _ w15 ⟨rfl, h15⟩
    exact asB_ok <| br_false rfl <| arith_i64 (by omega) (by omega) ⟨(80 - (n + 1)).toNat, by omega, S', P', H, out', by omega, by omega, rfl, rfl, rfl, hc', hM', by omega, ho', (h15.perm (B := blk k16 (acA x) 47 * (tab T_uint64 1 fU64 pH H.length cH H * (tab T_int 1 fInt pO H.length cO (H.map out') * (HH b a 1048576 P' S' * old W)))) (by ac_rfl)).right⟩
  have hon1 : ∀ y, out y ≤ n + 1 := fun y => by have := hon y; omega
  have same : ∀ {w : World}, Sat W (blk k16 (acA x) 47 * (tab T_uint64 1 fU64 pH H.length cH H * (tab T_int 1 fInt pO H.length cO (H.map out) * (HH b a 1048576 P S * old W)))) w →
      call Try.prog fn_tenonlaw11_counted #[.pointer (some ⟨b, 0, none⟩), .slice pH H.length cH, .slice pO H.length cO] w fun v47 w15 => asB v47 fun b48 => br (!b48) ((fun v w' => v = Value.bool true ∧ Below W.heap.size W w') (.bool false) w15) (arith .i64 (n + 1) fun n49 => ∃ m50, m50 < (80 - n).toNat ∧ KI W b a pH H.length cH pO H.length cO n49 w15 m50) := fun h =>
    tail hc hM hon1 (h.perm (by ac_rfl))
  refine ldI_ok (cx h6 2 _ rfl) <| call_pure hk <| asI_ok <| ldI_ok (cx h6 0 _ rfl) <| br_split (fun _ => ?_) (fun _ => br_split (fun _ => ?_) (fun _ => ?_))
  -- held
  · refine tab_idx fInt_len h6.right.right.left (by decide) kk0 hho fun g hg => rdO h6.right.right hg hho <| br_dec (fun hgt => ?_) (fun _ => same h6)
    obtain ⟨o, hp⟩ := hc.live (h := h) hgt
    obtain ⟨e1, _, hc2⟩ := hc.held hp (hsmall h o hp)
    refine tab_idx fU64_len h6.right.left (by decide) kk0 hh fun g hg => rdH h6.right hg hh <| call_mono (heap_Up_ok (h6.perm (B := HH b a 1048576 P S * (blk k16 (acA x) 47 * (tab T_uint64 1 fU64 pH H.length cH H * (tab T_int 1 fInt pO H.length cO (H.map out) * old W)))) (by ac_rfl)) hc.inv hhr.1 hhr.2) ?_
    rw [e1]
    rintro _ w13 ⟨rfl, h13⟩
    have h14 : Sat W (tab T_int 1 fInt pO H.length cO (H.map out) * (tab T_uint64 1 fU64 pH H.length cH H * (HH b a 1048576 P (upA S h { o with cn := o.cn + 1 }) * (blk k16 (acA x) 47 * old W)))) w13 := h13.perm (by ac_rfl)
    refine ⟨_, _, rfl, br_false rfl <| tab_idx fInt_len h14.left (by decide) kk0 hho fun g hg => rdO h14 hg hho <| arith_i64 (by omega) (by omega) <| tab_idx fInt_len h14.left (by decide) kk0 hho fun g2 hg2 => ?_⟩
    rw [← Sp.add_zero (⟨g2, k.toNat * 1, none⟩ : Addr)]
    refine tab_st fInt_len (y' := out h + 1) h14 hg2 hho (by decide) rfl fun w14 h15 => ?_
    rw [← map_updI (out := out) (v := out h + 1) hc.nd hh] at h15
    exact tail hc2 (by rw [up_most]; exact hM) (updI_le hon (by omega) (by omega)) (h15.perm (by ac_rfl))
  -- let go
  · refine tab_idx fInt_len h6.right.right.left (by decide) kk0 hho fun g hg => rdO h6.right.right hg hho <| br_dec (fun hgt => ?_) (fun _ => same h6)
    obtain ⟨o, hp⟩ := hc.live (h := h) hgt
    obtain ⟨e1, hc2, hw2, hM2⟩ := hc.dn hp hgt
    refine tab_idx fU64_len h6.right.left (by decide) kk0 hh fun g hg => rdH h6.right hg hh <| call_mono (heap_Down_out (h6.perm (B := HH b a 1048576 P S * (blk k16 (acA x) 47 * (tab T_uint64 1 fU64 pH H.length cH H * (tab T_int 1 fInt pO H.length cO (H.map out) * old W)))) (by ac_rfl)) hc.inv hhr.1 hhr.2) ?_
    rintro v w13 (⟨hne, _⟩ | ⟨_, r, P', pg, cg, pf, cf, hF, _, _, _, _, _, rfl, h13⟩)
    · exact absurd e1 hne
    obtain ⟨hc3, hM3⟩ := CI.fall hF hc2 hw2
    have h14 : Sat W (tab T_int 1 fInt pO H.length cO (H.map out) * (tab T_uint64 1 fU64 pH H.length cH H * (HH b a 1048576 P' r.1 * (blk k16 (acA x) 47 * old W)))) w13 := h13.right.right.perm (by ac_rfl)
    refine ⟨_, _, _, _, _, _, _, rfl, br_false rfl <| tab_idx fInt_len h14.left (by decide) kk0 hho fun g hg => rdO h14 hg hho <| arith_i64 (by omega) (by omega) <| tab_idx fInt_len h14.left (by decide) kk0 hho fun g2 hg2 => ?_⟩
    rw [← Sp.add_zero (⟨g2, k.toNat * 1, none⟩ : Addr)]
    refine tab_st fInt_len (y' := out h - 1) h14 hg2 hho (by decide) rfl fun w14 h15 => ?_
    rw [← map_updI (out := out) (v := out h - 1) hc.nd hh] at h15
    exact tail hc3 (by rw [hM3, hM2]; exact hM) (updI_le hon (by omega) (by omega)) (h15.perm (by ac_rfl))
  -- laid
  · obtain ⟨k2, hk2, k20, k21, _⟩ := tenonref01_Pick_ok x.x (H.length : Int) rx.1 rx.2 (by omega) (by omega)
    have k21 := k21 (by omega)
    obtain ⟨h', hh'⟩ : ∃ h, H[k2.toNat]? = some h := ⟨H[k2.toNat]'(by omega), by simp⟩
    have hhr' := (hc.was h' (List.mem_of_getElem? hh')).range hc.inv.ok
    have hhp : ∀ {w : World}, Sat W (blk k16 (acA x) 47 * (tab T_uint64 1 fU64 pH H.length cH H * (tab T_int 1 fInt pO H.length cO (H.map out) * (HH b a 1048576 P S * old W)))) w → Sat W (HH b a 1048576 P S * (blk k16 (acA x) 47 * (tab T_uint64 1 fU64 pH H.length cH H * (tab T_int 1 fInt pO H.length cO (H.map out) * old W)))) w := fun h => h.perm (by ac_rfl)
    have alive : ∀ {y : Int}, 0 < cntM S y → ∃ o, pay S y = some o := fun {y} hy => by
      cases hp : pay S y with
      | none => rw [cntM, whole_none hp] at hy; exact absurd hy (show ¬ (0 : Int) < 0 by decide)
      | some o => exact ⟨o, rfl⟩
    refine ldI_ok (cx h6 3 _ rfl) <| call_pure hk2 <| asI_ok ⟨fun bb w => (bb = true → (∃ o, pay S h = some o) ∧ ∃ o, pay S h' = some o) ∧ Sat W (blk k16 (acA x) 47 * (tab T_uint64 1 fU64 pH H.length cH H * (tab T_int 1 fInt pO H.length cO (H.map out) * (HH b a 1048576 P S * old W)))) w,
      tab_idx fU64_len h6.right.left (by decide) kk0 hh fun g hg => rdH h6.right hg hh <| call_mono (heap_Count_ok (hhp h6) hc.inv hhr.1 hhr.2) ?_, ?_⟩
    · rintro _ w22 ⟨rfl, rfl⟩
      refine asI_ok <| br_dec (fun hg1 => tab_idx fU64_len h6.right.left (by decide) k20 hh' fun g hg => rdH h6.right hg hh' <| call_mono (heap_Count_ok (hhp h6) hc.inv hhr'.1 hhr'.2) ?_) (fun _ => ⟨(fun e => by cases e), h6⟩)
      rintro _ w23 ⟨rfl, rfl⟩
      exact asI_ok ⟨fun e => ⟨alive hg1, alive (by simpa using e)⟩, h6⟩
    rintro u bb2 w24 ⟨hb2, h24⟩
    refine br_split (fun hbt => ?_) (fun _ => same h24)
    obtain ⟨⟨o, hp⟩, o2, hp2⟩ := hb2 hbt
    have h25 := h24.drew
    obtain ⟨e1, hc2, hw2, hM2⟩ := hc.put hsmall hp hp2 (bitA x.a)
    refine tab_idx fU64_len h25.right.left (by decide) kk0 hh fun g hg => rdH h25.right hg hh <| ldI_ok (cx h25 1 _ rfl) <| tab_idx fU64_len h25.right.left (by decide) k20 hh' fun g hg => rdH h25.right hg hh' <| call_mono (heap_Put_ok (h := h) (slot := bitw .and .i64 x.a 1) (x := (1, h')) (hhp h25) hc.inv ⟨(show -9223372036854775808 ≤ (1 : Int) ∧ (1 : Int) ≤ 9223372036854775807 by decide), hhr'⟩ hhr.1 hhr.2) ?_
    rintro v w13 (⟨hne, _⟩ | ⟨_, r, P', pg, cg, pf, cf, hF, _, _, _, _, _, rfl, h13⟩)
    · exact absurd e1 hne
    obtain ⟨hc3, hM3⟩ := CI.fall hF hc2 hw2
    refine ⟨_, _, _, _, _, _, _, rfl, br_false rfl <| tail hc3 (by rw [hM3, hM2]; exact hM) hon1 (h13.right.right.perm (by ac_rfl))⟩
theorem HeapCounts_row {W : World} {x0 : Int} {v : Value} (h0 : -9223372036854775808 ≤ x0 ∧ x0 ≤ 9223372036854775807) (h : ∃ p l c xs, v = .slice p l c ∧ l ≤ 9223372036854775807 ∧ Acts W p l xs) : call Try.prog fn_tenonlaw11_HeapCounts #[.int .i64 x0, v] W fun v w' => v = .bool true ∧ Below W.heap.size W w' := by
  obtain ⟨p, l, c, xs, rfl, hl, hx⟩ := h
  exact HeapCounts_walk h0 hx hl
end Go.Proofs.Ytgchemgnmijpdaa
