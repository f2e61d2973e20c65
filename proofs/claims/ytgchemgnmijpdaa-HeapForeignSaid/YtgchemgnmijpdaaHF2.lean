/- HeapForeign: the walk. No conditions. -/
import Derived.Test.YtgchemgnmijpdaaHF1
import Derived.Test.YtgchemgnmijpdaaHAct
set_option linter.unusedVariables false
set_option linter.unusedSimpArgs false
set_option maxRecDepth 100000
namespace Go.Proofs.Ytgchemgnmijpdaa
open Go.Sp Go.RowKit

section
variable {w₀ w : World} {F : HP} {b a : Nat} {P : PM} {S : HS} {L : List Int} {laid told : Int}
/-- Letting go of a live one. -/
theorem far_Down_ok {h : Int} (hh : Sat w₀ (HH b a 9 P S * F) w) (hf : FI S L laid told) (hL : h ∈ L) :
    call Try.prog fn_heap_Heap_Down #[.pointer (some ⟨b, 0, none⟩), .int .u64 h] w fun v w' => ∃ (r : HS × List Int × List Int) (P' : PM) (pg : Option Addr) (cg : Nat) (pf : Option Addr) (cf : Nat), FI r.1 (L.erase h) laid (told + (r.2.2.length : Nat)) ∧
      v = mk3 0 pg r.2.1.length cg pf r.2.2.length cf ∧ Sat w₀ (tab T_uint64 1 fU64 pg r.2.1.length cg r.2.1 * (tab T_uint64 1 fU64 pf r.2.2.length cf r.2.2 * (HH b a 9 P' r.1 * F))) w' := by
  obtain ⟨o, hp⟩ := (hf.mem h).2 hL
  have hr := pay_range hf.inv.ok hp
  obtain ⟨d0, r', d1, d2, d3⟩ := hf.down hL
  refine call_mono (heap_Down_out hh hf.inv (by omega) hr.2) ?_
  rintro v w' (⟨hne, _⟩ | ⟨_, r, P', pg, cg, pf, cf, hF, _, _, _, _, _, rfl, h2⟩)
  · exact absurd d0 hne
  · have := hF.eq d1
    subst this
    exact ⟨r, P', pg, cg, pf, cf, d3, rfl, h2⟩
theorem HeapForeign_walk {W : World} {p : Option Addr} {l c : Nat} {xs : List ActD} (hx : Acts W p l xs) (hl : l ≤ 9223372036854775807) :
    call Try.prog fn_tenonlaw11_HeapForeign #[.slice p l c] W fun v w' => v = .bool true ∧ Below W.heap.size W w' := by
  apply tenonlaw11_HeapForeign_call
  unfold tenonlaw11_HeapForeign
  have done : ∀ {w : World} {A : HP}, Sat W (A * old W) w → call Try.prog 18 #[] w fun v w' => asB v fun b => (Value.bool b) = .bool true ∧ Below W.heap.size W w' := by
    intro w A h
    refine call_mono (tenonlaw11_awake_ok h) ?_
    rintro _ w4 ⟨rfl, h4⟩
    exact asB_ok ⟨rfl, h4.right.below'⟩
  refine call_mono (heap_New_ok (top := 9) (Sat.start W) (by decide) (by decide) (by decide)) ?_
  rintro _ w1 ⟨b, a, rfl, h1⟩
  refine ⟨_, _, rfl, br_false rfl ?_⟩
  -- what is done
  refine ⟨fun pl ll cl nl nt w => ∃ S P L, ll = L.length ∧ FI S L nl nt ∧ 0 ≤ nt ∧ nl ≤ 60 ∧ L.length ≤ 60 ∧ Sat W (tab T_uint64 1 fU64 pl ll cl L * (HH b a 9 P S * old W)) w, ?_, ?_⟩
  · refine ⟨fun pl ll cl nl nt i w m => ∃ S P L, 0 ≤ i ∧ i ≤ 60 ∧ m = (60 - i).toNat ∧ ll = L.length ∧ FI S L nl nt ∧ 0 ≤ nt ∧ 0 ≤ nl ∧ nl ≤ i ∧ (L.length : Int) ≤ i ∧ Sat W (tab T_uint64 1 fU64 pl ll cl L * (HH b a 9 P S * old W)) w,
      ⟨_, s0 100, _, [], by decide, by decide, rfl, rfl, FI.start, by decide, by decide, by decide, by decide, tab_nil _ _ _ h1⟩, ?_⟩
    rintro u pl ll cl nl nt i w2 m ⟨S, P, L, i0, i60, rfl, rfl, hf, ht0, hl0, hli, hLi, h2⟩
    have hsum := hf.sum
    refine br_dec (fun hlt => br_dec (fun hlt60 => ?_) (fun _ => ⟨S, P, L, rfl, hf, ht0, by omega, by omega, h2⟩)) (fun _ => ⟨S, P, L, rfl, hf, ht0, by omega, by omega, h2⟩)
    refine hx.idx h2.right.right i0 hlt fun ad x hxx r1 r2 r3 r4 r5 ld => ld <| new_ok h2 fun k15 w3 h3 => stA_ok h3 rfl rfl (acA_one x) fun w4 h4 => ?_
    have h4 : Sat W (blk k15 (acA x) 47 * (tab T_uint64 1 fU64 pl L.length cl L * (HH b a 9 P S * old W))) w4 := h4
    -- one is made
    have mk : ∀ {w : World}, Sat W (blk k15 (acA x) 47 * (tab T_uint64 1 fU64 pl L.length cl L * (HH b a 9 P S * old W))) w →
        call Try.prog 12 #[.pointer (some ⟨b, 0, none⟩), .int .i64 3, .int .u64 0] w fun v26 w8 => ∃ (n27 : Int) (n28 : Int), v26 = .tuple #[.int .u64 n27, .int .i64 n28] ∧
          br ((n28 : Int) == 0) (new #[.int .u64 n27] 29 w8 fun k29 w9 => runsS Try.prog (Builtin.append_ #[28, 28] 28 #[.slice pl L.length cl, .slice (some (⟨k29, 0, none⟩ : Addr)) 1 1]) w9 fun p30 l30 c30 w10 =>
            arith .i64 (i + 1) fun n31 => ∃ m32, m32 < (60 - i).toNat ∧ (fun pl ll cl nl nt i w m => ∃ S P L, 0 ≤ i ∧ i ≤ 60 ∧ m = (60 - i).toNat ∧ ll = L.length ∧ FI S L nl nt ∧ 0 ≤ nt ∧ 0 ≤ nl ∧ nl ≤ i ∧ (L.length : Int) ≤ i ∧ Sat W (tab T_uint64 1 fU64 pl ll cl L * (HH b a 9 P S * old W)) w) p30 l30 c30 nl nt n31 w10 m32) (
            arith .i64 (i + 1) fun n33 => ∃ m34, m34 < (60 - i).toNat ∧ (fun pl ll cl nl nt i w m => ∃ S P L, 0 ≤ i ∧ i ≤ 60 ∧ m = (60 - i).toNat ∧ ll = L.length ∧ FI S L nl nt ∧ 0 ≤ nt ∧ 0 ≤ nl ∧ nl ≤ i ∧ (L.length : Int) ≤ i ∧ Sat W (tab T_uint64 1 fU64 pl ll cl L * (HH b a 9 P S * old W)) w) pl L.length cl nl nt n33 w8 m34) := by
      intro w h
      refine call_mono (heap_Make_ok (slots := 3) (outer := 0) (h.perm (B := HH b a 9 P S * (tab T_uint64 1 fU64 pl L.length cl L * (blk k15 (acA x) 47 * old W))) (by ac_rfl)) hf.inv (by decide) (by decide)) ?_
      rintro _ w8 ⟨rfl, P', h8⟩
      refine ⟨_, _, rfl, br_split (fun he => ?_) (fun he => ?_)⟩
      · have he : (mkM S 3 0).2.2 = 0 := by simpa using he
        refine new_ok h8 fun k29 w9 h9 => tab_app u64sTy fU64_len (by decide) fU64_one (x := (mkM S 3 0).2.1) (h9.perm (B := blk k29 #[.int .u64 (mkM S 3 0).2.1] 29 * (tab T_uint64 1 fU64 pl L.length cl L * (HH b a 9 P' (mkM S 3 0).1 * (blk k15 (acA x) 47 * old W)))) (by ac_rfl)) rfl (by simp only [maxLen]; omega) (by omega) fun p' c' w10 h10 => ?_
        refine arith_i64 (by omega) (by omega) ⟨_, ?_, (mkM S 3 0).1, P', L ++ [(mkM S 3 0).2.1], by omega, by omega, rfl, by simp, hf.make he, ht0, hl0, by omega, by simp; omega, ?_⟩
        · omega
        · exact (h10.perm (B := blk k15 (acA x) 47 * (tab T_uint64 1 fU64 p' (L.length + 1) c' (L ++ [(mkM S 3 0).2.1]) * (HH b a 9 P' (mkM S 3 0).1 * old W))) (by ac_rfl)).right
      · have he : (mkM S 3 0).2.2 ≠ 0 := by simpa using he
        rw [mkM_fail hf.inv.ok (by decide) he] at h8
        refine arith_i64 (by omega) (by omega) ⟨_, ?_, S, P', L, by omega, by omega, rfl, rfl, hf, ht0, hl0, by omega, by omega, ?_⟩
        · omega
        · exact (h8.perm (B := blk k15 (acA x) 47 * (tab T_uint64 1 fU64 pl L.length cl L * (HH b a 9 P' S * old W))) (by ac_rfl)).right
    refine br_split (fun _ => mk h4) (fun hne => ldI_ok (n := x.kd) (cell_blk h4 (i := 0) rfl) <| br_split (fun _ => mk h4) (fun _ => ?_))
    have hne : L.length ≠ 0 := by intro e; rw [e] at hne; simp at hne
    obtain ⟨k, hk, k0, kl, _⟩ := tenonref01_Pick_ok x.h (L.length : Int) r3.1 r3.2 (by omega) (by omega)
    have kl := kl (by omega)
    refine ldI_ok (n := x.h) (cell_blk h4 (i := 2) rfl) <| call_pure hk <| asI_ok <| ldI_ok (n := x.kd) (cell_blk h4 (i := 0) rfl) ?_
    have hkl : k.toNat < L.length := by omega
    obtain ⟨h, hh⟩ : ∃ h, L[k.toNat]? = some h := ⟨_, List.getElem?_eq_getElem hkl⟩
    have hL : h ∈ L := List.mem_of_getElem? hh
    have rd : ∀ {w : World} {j : Nat} {y : Int} {K : Int → Prop} {g : Nat}, Sat W (tab T_uint64 1 fU64 pl L.length cl L) w → pl = some ⟨g, 0, none⟩ → L[j]? = some y → K y → ldI .u64 (⟨g, j * 1, none⟩ : Addr) w K := fun ht hg hy hK =>
      ldI_ok (by have := tab_cell fU64_len ht hg hy (j := 0) (by decide) rfl; rwa [Sp.add_zero] at this) hK
    refine br_split (fun _ => ?_) (fun _ => ?_)
    · -- one is let go
      refine tab_idx fU64_len h4.right.left (by decide) k0 hh fun g hg => rd h4.right.left hg hh <| call_mono (far_Down_ok (h4.perm (B := HH b a 9 P S * (tab T_uint64 1 fU64 pl L.length cl L * (blk k15 (acA x) 47 * old W))) (by ac_rfl)) hf hL) ?_
      rintro _ w12 ⟨r, P', pg, cg, pf, cf, hf2, rfl, h12⟩
      have hsum2 := hf2.sum
      obtain ⟨z, hz⟩ : ∃ z, L.getLast? = some z := by
        cases hzz : L.getLast? with
        | none => rw [List.getLast?_eq_none_iff] at hzz; rw [hzz] at hne; simp at hne
        | some z => exact ⟨z, rfl⟩
      have hz2 : L[(((L.length : Int) - 1)).toNat]? = some z := by rw [← hz, List.getLast?_eq_getElem?]; congr 1; omega
      have h13 := h12.perm (B := tab T_uint64 1 fU64 pl L.length cl L * (HH b a 9 P' r.1 * old W * (tab T_uint64 1 fU64 pg r.2.1.length cg r.2.1 * (tab T_uint64 1 fU64 pf r.2.2.length cf r.2.2 * blk k15 (acA x) 47)))) (by ac_rfl)
      refine ⟨_, _, _, _, _, _, _, rfl, br_false rfl <| arith_u64 (by omega) (by omega) <| arith_u64 (by omega) (by omega) <| arith_i64 (by omega) (by omega) <| tab_idx fU64_len h13.left (by decide) (by omega) hz2 fun g2 hg2 => rd h13.left hg2 hz2 <| tab_idx fU64_len h13.left (by decide) k0 hh fun g3 hg3 => ?_⟩
      have hst := fun K hK => tab_st (K := K) fU64_len (j := 0) (v := .int .u64 z) (y' := z) h13 hg3 hh (by decide) rfl hK
      simp only [Sp.add_zero] at hst
      refine hst _ fun w14 h14 => arith_i64 (by omega) (by omega) <| slc_ok (by omega) (by omega) ?_ ?_
      · have hcap := (show Sat W (own T_uint64 1 pl L.length cl (L.flatMap fU64)) w12 from h13.left).own_cap
        omega
      have hpz : (if cl = Int.toNat 0 then pl else pl.map (·.add (Int.toNat 0 * 1))) = pl := by
        rw [hg3]
        split
        · rfl
        · show some ((⟨g3, 0, none⟩ : Addr).add (Int.toNat 0 * 1)) = _
          rw [show Int.toNat 0 * 1 = 0 from rfl, Sp.add_zero]
      rw [hpz, show ((L.length : Int) - 1).toNat - Int.toNat 0 = L.length - 1 by show _ - 0 = _; omega, show cl - Int.toNat 0 = cl from rfl]
      have h15 := tab_cut fU64_len h14 (n := L.length - 1) (by omega)
      have hp := swap_perm hh hz
      have hdl : (L.set k.toNat z).dropLast = (L.set k.toNat z).take (L.length - 1) := by rw [List.dropLast_eq_take, List.length_set]
      have hf3 := hf2.perm hp
      rw [hdl] at hf3
      have htl : ((L.set k.toNat z).take (L.length - 1)).length = L.length - 1 := by rw [List.length_take, List.length_set]; omega
      refine arith_i64 (by omega) (by omega) ⟨_, ?_, r.1, P', (L.set k.toNat z).take (L.length - 1), by omega, by omega, rfl, htl.symm, hf3, by omega, hl0, by omega, by rw [htl]; omega, ?_⟩
      · omega
      · exact (h15.perm (B := (tab T_uint64 1 fU64 pg r.2.1.length cg r.2.1 * (tab T_uint64 1 fU64 pf r.2.2.length cf r.2.2 * blk k15 (acA x) 47)) * (tab T_uint64 1 fU64 pl (L.length - 1) cl ((L.set k.toNat z).take (L.length - 1)) * (HH b a 9 P' r.1 * old W))) (by ac_rfl)).right
    · -- something foreign is laid
      have h5 := h4.drew
      obtain ⟨s, hs, s0', sl, _⟩ := tenonref01_Pick_ok x.a 3 r2.1 r2.2 (by omega) (by omega)
      have sl := sl (by omega)
      obtain ⟨o, hp⟩ := (hf.mem h).2 hL
      have hr := pay_range hf.inv.ok hp
      refine arith_u64 (by omega) (by omega) <| tab_idx fU64_len h4.right.left (by decide) k0 hh fun g hg => rd h5.right.left hg hh <| ldI_ok (n := x.a) (cell_blk h5 (i := 1) rfl) <| call_pure hs <| asI_ok ⟨?_, ?_⟩
      · have := tab_cell fU64_len h5.right.left hg hh (j := 0) (by decide) rfl
        rwa [Sp.add_zero] at this
      refine call_mono (heap_Put_ok (h := h) (slot := s) (x := (2, nl + 1)) (h5.perm (B := HH b a 9 P S * (tab T_uint64 1 fU64 pl L.length cl L * (blk k15 (acA x) 47 * old W))) (by ac_rfl)) hf.inv ⟨(show -9223372036854775808 ≤ (2 : Int) ∧ (2 : Int) ≤ 9223372036854775807 by decide), by dsimp only; omega⟩ (by omega) hr.2) ?_
      obtain ⟨q1, q2, q3, q4, q5⟩ := hf.lay hL s0' sl hl0 (by omega)
      rintro v w15 (⟨hn, _⟩ | ⟨_, r, P', pg, cg, pf, cf, hF, _, _, _, _, _, rfl, h15⟩)
      · exact absurd q1 hn
      rw [q2] at hF
      have := Fall.nil hF
      subst this
      dsimp only at h15 ⊢
      obtain ⟨fo, hfo⟩ : ∃ fo, fo = (putM 9 S h s (2, nl + 1)).2.2.2 := ⟨_, rfl⟩
      rw [← hfo] at q3 q4 q5 h15 ⊢
      have hsum2 := q5.sum
      have fin : ∀ {w : World}, Sat W (tab T_uint64 1 fU64 pg ([] : List Int).length cg [] * (tab T_uint64 1 fU64 pf fo.length cf fo * (HH b a 9 P' (putM 9 S h s (2, nl + 1)).2.1 * (tab T_uint64 1 fU64 pl L.length cl L * (blk k15 (acA x) 47 * old W))))) w →
          arith .u64 ((fo.length : Nat) : Int) fun n71 => arith .u64 (nt + n71) fun n72 => arith .i64 (i + 1) fun n73 => ∃ m74, m74 < (60 - i).toNat ∧ (fun pl ll cl nl nt i w m => ∃ S P L, 0 ≤ i ∧ i ≤ 60 ∧ m = (60 - i).toNat ∧ ll = L.length ∧ FI S L nl nt ∧ 0 ≤ nt ∧ 0 ≤ nl ∧ nl ≤ i ∧ (L.length : Int) ≤ i ∧ Sat W (tab T_uint64 1 fU64 pl ll cl L * (HH b a 9 P S * old W)) w) pl L.length cl (nl + 1) n72 n73 w m74 := by
        intro w hw
        refine arith_u64 (by omega) (by omega) <| arith_u64 (by omega) (by omega) <| arith_i64 (by omega) (by omega) ⟨_, ?_, _, P', L, by omega, by omega, rfl, rfl, q5, by omega, by omega, by omega, by omega, ?_⟩
        · omega
        · exact (hw.perm (B := (tab T_uint64 1 fU64 pg ([] : List Int).length cg [] * (tab T_uint64 1 fU64 pf fo.length cf fo * blk k15 (acA x) 47)) * (tab T_uint64 1 fU64 pl L.length cl L * (HH b a 9 P' (putM 9 S h s (2, nl + 1)).2.1 * old W))) (by ac_rfl)).right
      refine ⟨_, _, _, _, _, _, _, rfl, br_false rfl <| br_dec (fun hgt => absurd hgt (by omega)) (fun _ => br_split (fun h1f => ?_) (fun _ => fin h15))⟩
      have h1f : fo.length = 1 := by have : ((fo.length : Nat) : Int) = 1 := by simpa using h1f
                                     omega
      obtain ⟨y, hy⟩ : ∃ y, fo[(0 : Int).toNat]? = some y := ⟨_, List.getElem?_eq_getElem (by rw [h1f]; decide)⟩
      have hyl := q4 y (List.mem_of_getElem? hy)
      refine tab_idx fU64_len h15.right.left (by decide) (by decide) hy fun g hg => ldI_ok (n := y) (by have := tab_cell fU64_len h15.right.left hg hy (j := 0) (by decide) rfl; rwa [Sp.add_zero] at this) <| br_dec (fun hge => absurd hge (by omega)) (fun _ => fin h15)
  -- all that live are let go
  rintro u pl ll cl nl nt w16 ⟨S, P, L, rfl, hf, ht0, hl60, hL60, h16⟩
  refine ⟨fun nt i w m => ∃ S P, 0 ≤ i ∧ i ≤ L.length ∧ m = (L.length - i).toNat ∧ FI S (L.drop i.toNat) nl nt ∧ 0 ≤ nt ∧ Sat W (tab T_uint64 1 fU64 pl L.length cl L * (HH b a 9 P S * old W)) w, ⟨_, S, P, by decide, by omega, rfl, hf, ht0, h16⟩, ?_⟩
  rintro u nt2 i w17 m ⟨S2, P2, i0, il, rfl, hf2, ht2, h17⟩
  have hsum := hf2.sum
  refine br_dec (fun hlt => ?_) (fun hge => ?_)
  · have hi : i.toNat < L.length := by omega
    obtain ⟨h, hh⟩ : ∃ h, L[i.toNat]? = some h := ⟨_, List.getElem?_eq_getElem hi⟩
    have hd : L.drop i.toNat = h :: L.drop (i.toNat + 1) := by
      rw [List.drop_eq_getElem_cons hi]
      rw [List.getElem?_eq_getElem hi] at hh
      rw [Option.some.inj hh]
    rw [hd] at hf2
    refine tab_idx fU64_len h17.left (by decide) i0 hh fun g hg => ldI_ok (n := h) (by have := tab_cell fU64_len h17.left hg hh (j := 0) (by decide) rfl; rwa [Sp.add_zero] at this) <| call_mono (far_Down_ok (h17.perm (B := HH b a 9 P2 S2 * (tab T_uint64 1 fU64 pl L.length cl L * old W)) (by ac_rfl)) hf2 (.head _)) ?_
    rintro _ w18 ⟨r, P', pg, cg, pf, cf, hf3, rfl, h18⟩
    rw [List.erase_cons_head] at hf3
    have hsum3 := hf3.sum
    refine ⟨_, _, _, _, _, _, _, rfl, br_false rfl <| arith_u64 (by omega) (by omega) <| arith_u64 (by omega) (by omega) <| arith_i64 (by omega) (by omega) ⟨_, ?_, r.1, P', by omega, by omega, rfl, by rw [show (i + 1).toNat = i.toNat + 1 by omega]; exact hf3, by omega, ?_⟩⟩
    · omega
    · exact (h18.perm (B := (tab T_uint64 1 fU64 pg r.2.1.length cg r.2.1 * tab T_uint64 1 fU64 pf r.2.2.length cf r.2.2) * (tab T_uint64 1 fU64 pl L.length cl L * (HH b a 9 P' r.1 * old W))) (by ac_rfl)).right
  · rw [List.drop_of_length_le (by omega)] at hf2
    have hsum4 := hf2.sum
    simp only [List.map_nil, List.sum_nil] at hsum4
    have hnone : allFrom 0 S2.sp = [] := by
      apply List.eq_nil_iff_forall_not_mem.2
      intro x hx
      have := (hf2.mem x).1 ((pay_all hf2.inv.ok).2 hx)
      cases this
    refine br_true (by simp; omega) <| call_mono (heap_all_ok (most := 9) (h17.perm (B := HH b a 9 P2 S2 * (tab T_uint64 1 fU64 pl L.length cl L * old W)) (by ac_rfl)) hf2.inv.ok (by have := hf2.inv.most; omega)) ?_
    rintro _ w19 ⟨p', m', c', rfl, hm, h19⟩
    rw [hnone] at hm
    have : m' = 0 := by simpa using hm
    subst this
    exact asS_ok <| br_true rfl <| done (h19.perm (B := (tab T_uint64 1 fU64 p' 0 c' ((allFrom 0 S2.sp).take 0) * (HH b a 9 P2 S2 * tab T_uint64 1 fU64 pl L.length cl L)) * old W) (by ac_rfl))
theorem HeapForeign_row {W : World} {v : Value} (h : ∃ p l c xs, v = .slice p l c ∧ l ≤ 9223372036854775807 ∧ Acts W p l xs) : call Try.prog fn_tenonlaw11_HeapForeign #[v] W fun v w' => v = .bool true ∧ Below W.heap.size W w' := by
  obtain ⟨p, l, c, xs, rfl, hl, hx⟩ := h
  exact HeapForeign_walk hx hl
end
end Go.Proofs.Ytgchemgnmijpdaa
