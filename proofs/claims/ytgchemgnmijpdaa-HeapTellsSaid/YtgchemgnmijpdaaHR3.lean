/- Contracts of the document's heap: all that waits goes. No conditions. -/
import Derived.Test.YtgchemgnmijpdaaHR2
set_option linter.unusedVariables false
set_option linter.unusedSimpArgs false
set_option maxRecDepth 100000
namespace Go.Proofs.Ytgchemgnmijpdaa
open Go.Sp Go.RowKit

theorem lnOf_len {top : Int} {S : HS} (hs : HBase top S) : ∀ l : List Int, (l.flatMap (lnOf S)).length ≤ 8 * l.length
  | [] => by simp
  | h :: l => by
    have h1 := lnOf_len hs l
    have h2 : (lnOf S h).length ≤ 8 := by
      unfold lnOf
      split
      · rename_i o hp; exact (hs.rng h o hp).len
      · simp
    rw [List.flatMap_cons, List.length_append, List.length_cons]
    omega
theorem letM_pre (S : HS) (a b fo : List Int) (x : Int × Int) : letM S (a ++ b) fo x = ((letM S b fo x).1, a ++ (letM S b fo x).2.1, (letM S b fo x).2.2) := by
  unfold letM
  split
  · split
    · rfl
    · split
      · rfl
      · split
        · split
          · simp
          · rfl
        · rfl
  · split <;> rfl
section
variable {w₀ w : World} {F : HP} {r a : Nat} {top : Int} {P : PM} {S : HS}
/-- What is left when all that waits went. -/
def RFell (w₀ : World) (F : HP) (r a : Nat) (top : Int) (P : PM) (S : HS) (wt fo : List Int) (mk : Option Addr → Nat → Nat → Option Addr → Nat → Nat → Value) (v : Value) (w' : World) : Prop :=
  ∃ q pg cg pf cf, Fall S wt [] fo q ∧ HInv top q.1 ∧ q.1.most = S.most ∧ q.1.cnt ≤ S.cnt ∧ q.2.1.length ≤ 2000 ∧ q.2.2.length ≤ 20000 ∧ v = mk pg q.2.1.length cg pf q.2.2.length cf ∧
    Sat w₀ (tab T_uint64 1 fU64 pg q.2.1.length cg q.2.1 * (tab T_uint64 1 fU64 pf q.2.2.length cf q.2.2 * (RH r a top P q.1 * F))) w'
theorem rh_Go_ok {wt : List Int} {lk : List (Int × Int)} {p1 p2 : Option Addr} {l1 l2 c1 c2 : Nat} (hh : Sat w₀ (tab T_uint64 1 fU64 p1 l1 c1 wt * (tab T_api_Link 2 lnF p2 l2 c2 lk * (RH r a top P S * F))) w) (hl1 : l1 = wt.length) (hl2 : l2 = lk.length) (hs : HInv top S) (hw : WtOk S wt) (hlk : ∀ x ∈ lk, LinkOk x) (hb1 : S.cnt ≤ 2000) (hb2 : wt.length + lk.length + 9 * S.cnt ≤ 20000) :
    call Try.prog fn_tenonref11_Heap_Go #[.pointer (some ⟨r, 0, none⟩), .slice p1 l1 c1, .slice p2 l2 c2] w (RFell w₀ F r a top P (lets (S, wt, []) lk).1 (lets (S, wt, []) lk).2.1 (lets (S, wt, []) lk).2.2 mk2) := by
  apply tenonref11_Heap_Go_call
  unfold tenonref11_Heap_Go
  subst hl1 hl2
  obtain ⟨Q, hQ⟩ : ∃ Q, Q = lets (S, wt, []) lk := ⟨_, rfl⟩
  have hQi := lets_inv (fo := []) lk hs hw
  rw [← hQ] at hQi ⊢
  obtain ⟨_, _, hQc, hQm, _⟩ := hQi
  refine ⟨fun p4 l4 c4 p5 l5 c5 p6 l6 c6 p7 l7 c7 n w m => ∃ S1 WT lks gn1 fo1, l4 = WT.length ∧ l5 = lks.length ∧ l6 = gn1.length ∧ l7 = fo1.length ∧ -1 ≤ n ∧ n ≤ WT.length ∧ m = S1.cnt + (if n < 0 then 1 else 0) ∧
      (n < 0 → S1 = S ∧ WT = wt ∧ lks = lk ∧ gn1 = [] ∧ fo1 = []) ∧ (0 ≤ n → WtOk S1 (WT.drop n.toNat) ∧ ∀ q, Fall S1 (WT.drop n.toNat) gn1 fo1 q → Fall Q.1 Q.2.1 [] Q.2.2 q) ∧
      HInv top S1 ∧ S1.most = S.most ∧ S1.cnt ≤ S.cnt ∧ gn1.length + S1.cnt ≤ 2000 ∧ WT.length + fo1.length + 9 * S1.cnt ≤ 20000 ∧
      Sat w₀ (tab T_uint64 1 fU64 p4 l4 c4 WT * (tab T_api_Link 2 lnF p5 l5 c5 lks * (tab T_uint64 1 fU64 p6 l6 c6 gn1 * (tab T_uint64 1 fU64 p7 l7 c7 fo1 * (RH r a top P S1 * F))))) w,
    ⟨_, S, wt, lk, [], [], rfl, rfl, rfl, rfl, by omega, by omega, rfl, fun _ => ⟨rfl, rfl, rfl, rfl, rfl⟩, fun h => absurd h (by omega), hs, rfl, Nat.le_refl _, by simpa using hb1, by simp; omega,
      (tab_nil T_uint64 1 fU64 (tab_nil T_uint64 1 fU64 hh)).perm (by ac_rfl)⟩, ?_⟩
  rintro u p4 l4 d4 p5 l5 d5 p6 l6 d6 p7 l7 d7 n w1 m ⟨S1, WT, lks, gn1, fo1, rfl, rfl, rfl, rfl, n0, nl, rfl, hneg, hpos, hs1, hm1, hc1, hg1, hf1, h1⟩
  refine br_dec (fun hlt => ?_) (fun hge => ?_)
  case refine_2 =>
    have hn : 0 ≤ n := by omega
    obtain ⟨_, hfall⟩ := hpos hn
    rw [List.drop_of_length_le (by omega)] at hfall
    exact ⟨(S1, gn1, fo1), p6, d6, p7, d7, hfall _ .done, hs1, by dsimp only; omega, by dsimp only; omega, by dsimp only; omega, by dsimp only; omega, rfl, h1.right.right⟩
  have h1d := h1
  refine ⟨fun p l c p' l' c' w => ∃ S2 lks2 gn2, l = lks2.length ∧ l' = gn2.length ∧ HInv top S2 ∧ WtOk S2 (WT.drop (n + 1).toNat) ∧ (∀ x ∈ lks2, LinkOk x) ∧ S2.most = S.most ∧ S2.cnt < S1.cnt + (if n < 0 then 1 else 0) ∧ gn2.length + S2.cnt ≤ 2000 ∧ WT.length + fo1.length + lks2.length + 9 * S2.cnt ≤ 20000 ∧
      (∀ q, Fall (lets (S2, WT.drop (n + 1).toNat, fo1) lks2).1 (lets (S2, WT.drop (n + 1).toNat, fo1) lks2).2.1 gn2 (lets (S2, WT.drop (n + 1).toNat, fo1) lks2).2.2 q → Fall Q.1 Q.2.1 [] Q.2.2 q) ∧
      Sat w₀ (tab T_uint64 1 fU64 p4 WT.length d4 WT * (tab T_api_Link 2 lnF p l c lks2 * (tab T_uint64 1 fU64 p' l' c' gn2 * (tab T_uint64 1 fU64 p7 fo1.length d7 fo1 * (RH r a top P S2 * F))))) w, br_dec (fun hn => ?_) (fun hn => ?_), ?_⟩
  case refine_2 =>
    obtain ⟨rfl, rfl, rfl, rfl, rfl⟩ := hneg (by omega)
    have e : (n + 1).toNat = 0 := by omega
    rw [e, List.drop_zero]
    refine ⟨S1, lks, [], rfl, rfl, hs1, hw, hlk, hm1, by rw [if_pos (by omega)]; omega, by simpa using hg1, by simp; omega, ?_, h1⟩
    rw [← hQ]
    exact fun q h => h
  -- one that waits goes, with its inners
  · obtain ⟨hw1, hfall⟩ := hpos hn
    have hi : n.toNat < WT.length := by omega
    obtain ⟨h, hh1⟩ : ∃ h, WT[n.toNat]? = some h := ⟨_, List.getElem?_eq_getElem hi⟩
    have ed : WT.drop n.toNat = h :: WT.drop (n + 1).toNat := by
      rw [show (n + 1).toNat = n.toNat + 1 by omega, List.drop_eq_getElem_cons hi]
      rw [List.getElem?_eq_getElem hi] at hh1
      rw [Option.some.inj hh1]
    obtain ⟨rs, hrs⟩ : ∃ rs, rs = WT.drop (n + 1).toNat := ⟨_, rfl⟩
    rw [← hrs] at ed ⊢
    rw [ed] at hw1 hfall
    obtain ⟨o, hp, ho0, hoc⟩ := hw1.all h (.head _)
    obtain ⟨hnd, hlive⟩ := hs1.goers hp ho0
    have hro := hs1.rng h o hp
    have hil := hs1.innlen hp
    refine tab_idx fU64_len h1.left (by decide) hn hh1 fun g hg => ldI_ok (n := h) (by have := tab_cell fU64_len h1.left hg hh1 (j := 0) (by decide) rfl; rwa [Sp.add_zero] at this) <| call_mono (rh_away_ok (h1.perm (B := RH r a top P S1 * (tab T_uint64 1 fU64 p4 WT.length d4 WT * (tab T_uint64 1 fU64 p6 gn1.length d6 gn1 * (tab T_uint64 1 fU64 p7 fo1.length d7 fo1 * (tab T_api_Link 2 lnF p5 lks.length d5 lks * F))))) (by ac_rfl)) hs1.toHBase hp) ?_
    rintro _ w2 ⟨k, L, rfl, _, h2⟩
    have h2 := (h2.perm (B := tab T_api_Link 2 lnF p5 lks.length d5 lks * (robH ⟨h, k, o, L⟩ * (RH r a top P (rmA z0 S1 h) * (tab T_uint64 1 fU64 p4 WT.length d4 WT * (tab T_uint64 1 fU64 p6 gn1.length d6 gn1 * (tab T_uint64 1 fU64 p7 fo1.length d7 fo1 * F)))))) (by ac_rfl)).right
    refine asP_ok <| nn_ok <| ldI_ok (rob_cell h2 (i := 0) rfl) <| new_ok h2 fun k3 w3 h3 => ?_
    refine tab_app u64sTy fU64_len (by decide) fU64_one (x := h) (h3.perm (B := blk k3 #[.int .u64 h] 29 * (tab T_uint64 1 fU64 p6 gn1.length d6 gn1 * (robH ⟨h, k, o, L⟩ * (RH r a top P (rmA z0 S1 h) * (tab T_uint64 1 fU64 p4 WT.length d4 WT * (tab T_uint64 1 fU64 p7 fo1.length d7 fo1 * F)))))) (by ac_rfl)) rfl (by simp only [maxLen]; omega) (by omega) fun p8 c8 w4 h4 => ?_
    have h4b := h4.perm (B := robH ⟨h, k, o, L⟩ * (tab T_uint64 1 fU64 p8 (gn1.length + 1) c8 (gn1 ++ [h]) * (RH r a top P (rmA z0 S1 h) * (tab T_uint64 1 fU64 p4 WT.length d4 WT * (tab T_uint64 1 fU64 p7 fo1.length d7 fo1 * F))))) (by ac_rfl)
    have hol := hro.len
    refine nn_ok <| ldS_ok (rob_cell h4b (i := 4) (v := .slice L.pl o.ln.length L.cl) rfl) <| tab_more (ys := []) (l := 0) (p := none) (c := 0) linksTy lnF_len lnF_one (tab_nil T_api_Link 2 lnF h4) ((rob_open h4b).right.left.rd) (by simp only [maxLen]; omega) (by omega) fun p9 c9 w5 h5 => ?_
    rw [List.nil_append] at h5
    refine ⟨fun p l c p' l' c' j w m => 0 ≤ j ∧ j ≤ o.inn.length ∧ m = o.inn.length - j.toNat ∧ l = (o.ln ++ (o.inn.take j.toNat).flatMap (lnOf S1)).length ∧ l' = (gn1 ++ h :: o.inn.take j.toNat).length ∧
        Sat w₀ (tab T_api_Link 2 lnF p l c (o.ln ++ (o.inn.take j.toNat).flatMap (lnOf S1)) * (tab T_uint64 1 fU64 p' l' c' (gn1 ++ h :: o.inn.take j.toNat) * (robH ⟨h, k, o, L⟩ * (RH r a top P (rmL S1 (h :: o.inn.take j.toNat)) * (tab T_uint64 1 fU64 p4 WT.length d4 WT * (tab T_uint64 1 fU64 p7 fo1.length d7 fo1 * F)))))) w,
      ⟨_, by omega, by omega, rfl, by simp, by simp, ?_⟩, ?_⟩
    · have e0 : o.ln ++ (o.inn.take (0 : Int).toNat).flatMap (lnOf S1) = o.ln := by simp
      have e1 : o.inn.take (0 : Int).toNat = [] := rfl
      rw [e0, e1]
      have e2 : rmL S1 [h] = rmA z0 S1 h := rfl
      rw [e2]
      have h5 := h5.perm (B := tab T_api_Link 2 lnF p9 (0 + o.ln.length) c9 o.ln * (tab T_uint64 1 fU64 p8 (gn1.length + 1) c8 (gn1 ++ [h]) * (robH ⟨h, k, o, L⟩ * (RH r a top P (rmA z0 S1 h) * (tab T_uint64 1 fU64 p4 WT.length d4 WT * (tab T_uint64 1 fU64 p7 fo1.length d7 fo1 * F)))))) (by ac_rfl)
      exact h5
    rintro u p l c p' l' c' j w6 m ⟨j0, jl, rfl, rfl, rfl, h6⟩
    have h6r := h6.perm (B := robH ⟨h, k, o, L⟩ * (tab T_api_Link 2 lnF p (o.ln ++ (o.inn.take j.toNat).flatMap (lnOf S1)).length c (o.ln ++ (o.inn.take j.toNat).flatMap (lnOf S1)) * (tab T_uint64 1 fU64 p' (gn1 ++ h :: o.inn.take j.toNat).length c' (gn1 ++ h :: o.inn.take j.toNat) * (RH r a top P (rmL S1 (h :: o.inn.take j.toNat)) * (tab T_uint64 1 fU64 p4 WT.length d4 WT * (tab T_uint64 1 fU64 p7 fo1.length d7 fo1 * F)))))) (by ac_rfl)
    have hinn : Sat w₀ (tab T_uint64 1 fU64 L.pi o.inn.length L.ci o.inn) w6 := (rob_open h6r).right.right.left
    have hlen1 := lnOf_len hs1.toHBase (o.inn.take j.toNat)
    have htl : (o.inn.take j.toNat).length ≤ o.inn.length := by rw [List.length_take]; omega
    have htl2 : (o.inn.take j.toNat).length = j.toNat := by rw [List.length_take]; omega
    refine nn_ok <| ldS_ok (rob_cell h6r (i := 5) (v := .slice L.pi o.inn.length L.ci) rfl) <| br_dec (fun hjlt => ?_) (fun hjge => ?_)
    · have hij : j.toNat < o.inn.length := by omega
      obtain ⟨i, hii⟩ : ∃ i, o.inn[j.toNat]? = some i := ⟨_, List.getElem?_eq_getElem hij⟩
      have himem : i ∈ o.inn := List.mem_of_getElem? hii
      obtain ⟨x, hx, hxo⟩ := hs1.inn h o hp i himem
      have e3 : o.inn = o.inn.take j.toNat ++ i :: o.inn.drop (j.toNat + 1) := by
        conv => lhs; rw [← List.take_append_drop j.toNat o.inn, List.drop_eq_getElem_cons hij]
        rw [List.getElem?_eq_getElem hij] at hii
        rw [Option.some.inj hii]
      have hnd2 := hnd
      rw [e3, ← List.cons_append] at hnd2
      have hnd3 := List.nodup_append.1 hnd2
      have hni : i ∉ h :: o.inn.take j.toNat := fun hm => hnd3.2.2 i hm i (.head _) rfl
      obtain ⟨g1, g2, g3, g4⟩ := rmL_ok (h :: o.inn.take j.toNat) hs1.toHBase hnd3.1 fun y hy => hlive y (by
        rcases List.mem_cons.1 hy with rfl | hy
        · exact .head _
        · exact .tail _ (List.mem_of_mem_take hy))
      have hxi : pay (rmL S1 (h :: o.inn.take j.toNat)) i = some x := by rw [g4, if_neg hni]; exact hx
      have hxr := (hs1.rng i x hx).len
      refine nn_ok <| ldS_ok (rob_cell h6r (i := 5) (v := .slice L.pi o.inn.length L.ci) rfl) <| tab_idx fU64_len hinn (by decide) j0 hii fun g hg => ldI_ok (n := i) (by have := tab_cell fU64_len hinn hg hii (j := 0) (by decide) rfl; rwa [Sp.add_zero] at this) <| call_mono (rh_away_ok (h6.perm (B := RH r a top P (rmL S1 (h :: o.inn.take j.toNat)) * (tab T_api_Link 2 lnF p (o.ln ++ (o.inn.take j.toNat).flatMap (lnOf S1)).length c (o.ln ++ (o.inn.take j.toNat).flatMap (lnOf S1)) * (tab T_uint64 1 fU64 p' (gn1 ++ h :: o.inn.take j.toNat).length c' (gn1 ++ h :: o.inn.take j.toNat) * (robH ⟨h, k, o, L⟩ * (tab T_uint64 1 fU64 p4 WT.length d4 WT * (tab T_uint64 1 fU64 p7 fo1.length d7 fo1 * F)))))) (by ac_rfl)) g1 hxi) ?_
      rintro _ w7 ⟨k2, L2, rfl, _, h7⟩
      have erm : rmL S1 (h :: (o.inn.take j.toNat ++ [i])) = rmA z0 (rmL S1 (h :: o.inn.take j.toNat)) i := rmL_snoc S1 (h :: o.inn.take j.toNat) i
      rw [← erm] at h7
      refine asP_ok <| nn_ok <| ldI_ok (rob_cell h7 (i := 0) rfl) <| new_ok h7 fun k8 w8 h8 => ?_
      refine tab_app u64sTy fU64_len (by decide) fU64_one (x := i) (h8.perm (B := blk k8 #[.int .u64 i] 29 * (tab T_uint64 1 fU64 p' (gn1 ++ h :: o.inn.take j.toNat).length c' (gn1 ++ h :: o.inn.take j.toNat) * (robH ⟨i, k2, x, L2⟩ * (RH r a top P (rmL S1 (h :: (o.inn.take j.toNat ++ [i]))) * (tab T_api_Link 2 lnF p (o.ln ++ (o.inn.take j.toNat).flatMap (lnOf S1)).length c (o.ln ++ (o.inn.take j.toNat).flatMap (lnOf S1)) * (robH ⟨h, k, o, L⟩ * (tab T_uint64 1 fU64 p4 WT.length d4 WT * (tab T_uint64 1 fU64 p7 fo1.length d7 fo1 * F)))))))) (by ac_rfl)) rfl (by rw [List.length_append, List.length_cons]; simp only [maxLen]; omega) (by rw [List.length_append, List.length_cons]; omega) fun p10 c10 w9 h9 => ?_
      have h9b := h9.perm (B := robH ⟨i, k2, x, L2⟩ * (tab T_uint64 1 fU64 p10 ((gn1 ++ h :: o.inn.take j.toNat).length + 1) c10 (gn1 ++ h :: o.inn.take j.toNat ++ [i]) * (RH r a top P (rmL S1 (h :: (o.inn.take j.toNat ++ [i]))) * (tab T_api_Link 2 lnF p (o.ln ++ (o.inn.take j.toNat).flatMap (lnOf S1)).length c (o.ln ++ (o.inn.take j.toNat).flatMap (lnOf S1)) * (robH ⟨h, k, o, L⟩ * (tab T_uint64 1 fU64 p4 WT.length d4 WT * (tab T_uint64 1 fU64 p7 fo1.length d7 fo1 * F))))))) (by ac_rfl)
      refine nn_ok <| ldS_ok (rob_cell h9b (i := 4) (v := .slice L2.pl x.ln.length L2.cl) rfl) <| tab_more linksTy lnF_len lnF_one (h9b.perm (B := tab T_api_Link 2 lnF p (o.ln ++ (o.inn.take j.toNat).flatMap (lnOf S1)).length c (o.ln ++ (o.inn.take j.toNat).flatMap (lnOf S1)) * (robH ⟨i, k2, x, L2⟩ * (tab T_uint64 1 fU64 p10 ((gn1 ++ h :: o.inn.take j.toNat).length + 1) c10 (gn1 ++ h :: o.inn.take j.toNat ++ [i]) * (RH r a top P (rmL S1 (h :: (o.inn.take j.toNat ++ [i]))) * (robH ⟨h, k, o, L⟩ * (tab T_uint64 1 fU64 p4 WT.length d4 WT * (tab T_uint64 1 fU64 p7 fo1.length d7 fo1 * F))))))) (by ac_rfl)) ((rob_open h9b).right.left.rd) (by rw [List.length_append]; simp only [maxLen]; omega) (by rw [List.length_append]; omega) fun p11 c11 w10 h10 => ?_
      have etk : o.inn.take (j + 1).toNat = o.inn.take j.toNat ++ [i] := by rw [show (j + 1).toNat = j.toNat + 1 by omega, List.take_add_one, hii]; rfl
      have eln : o.ln ++ (o.inn.take (j + 1).toNat).flatMap (lnOf S1) = o.ln ++ (o.inn.take j.toNat).flatMap (lnOf S1) ++ x.ln := by
        rw [etk, List.flatMap_append, List.append_assoc]
        simp [lnOf, hx]
      have egn : gn1 ++ h :: o.inn.take (j + 1).toNat = gn1 ++ h :: o.inn.take j.toNat ++ [i] := by rw [etk]; simp
      refine arith_i64 (by omega) (by omega) ⟨_, ?_, by omega, by omega, rfl, ?_, ?_, ?_⟩
      · omega
      · rw [eln, List.length_append (bs := x.ln)]
      · rw [egn, List.length_append (bs := [i])]; rfl
      · rw [eln, egn, etk]
        exact (h10.perm (B := robH ⟨i, k2, x, L2⟩ * (tab T_api_Link 2 lnF p11 ((o.ln ++ (o.inn.take j.toNat).flatMap (lnOf S1)).length + x.ln.length) c11 (o.ln ++ (o.inn.take j.toNat).flatMap (lnOf S1) ++ x.ln) * (tab T_uint64 1 fU64 p10 ((gn1 ++ h :: o.inn.take j.toNat).length + 1) c10 (gn1 ++ h :: o.inn.take j.toNat ++ [i]) * (robH ⟨h, k, o, L⟩ * (RH r a top P (rmL S1 (h :: (o.inn.take j.toNat ++ [i]))) * (tab T_uint64 1 fU64 p4 WT.length d4 WT * (tab T_uint64 1 fU64 p7 fo1.length d7 fo1 * F))))))) (by
            show _ = robH _ * (tab T_api_Link 2 lnF p11 ((o.ln ++ (o.inn.take j.toNat).flatMap (lnOf S1)).length + x.ln.length) c11 _ * _)
            ac_rfl)).right
    · rw [List.take_of_length_le (by omega)] at h6 hlen1 ⊢
      obtain ⟨_, hcnt2, hmost2, _⟩ := rmL_ok (h :: o.inn) hs1.toHBase hnd hlive
      rw [List.length_cons] at hcnt2
      refine ⟨rmL S1 (h :: o.inn), o.ln ++ o.inn.flatMap (lnOf S1), gn1 ++ h :: o.inn, rfl, rfl, hs1.gone hp ho0, (WtOk.gone hs1 hw1 hp).2, fun x hx => ?_, hmost2.trans hm1, ?_, ?_, ?_, fun q hq => hfall q (.step hp rfl hq), ?_⟩
      · rcases List.mem_append.1 hx with hx | hx
        · exact hro.ln x hx
        · obtain ⟨i, hi, hx⟩ := List.mem_flatMap.1 hx
          unfold lnOf at hx
          split at hx
          · rename_i y hy; exact (hs1.rng i y hy).ln x hx
          · cases hx
      · split <;> omega
      · rw [List.length_append, List.length_cons]; omega
      · rw [List.length_append]; omega
      · exact (h6.perm (B := robH ⟨h, k, o, L⟩ * (tab T_uint64 1 fU64 p4 WT.length d4 WT * (tab T_api_Link 2 lnF p (o.ln ++ o.inn.flatMap (lnOf S1)).length c (o.ln ++ o.inn.flatMap (lnOf S1)) * (tab T_uint64 1 fU64 p' (gn1 ++ h :: o.inn).length c' (gn1 ++ h :: o.inn) * (tab T_uint64 1 fU64 p7 fo1.length d7 fo1 * (RH r a top P (rmL S1 (h :: o.inn)) * F)))))) (by ac_rfl)).right
  -- the links are let go
  rintro u p l c p' l' c' w2 ⟨S2, lks2, gn2, rfl, rfl, hs2, hw2, hlk2, hm2, hc2, hg2, hf2, hfall2, h2⟩
  obtain ⟨rs, hrs⟩ : ∃ rs, rs = WT.drop (n + 1).toNat := ⟨_, rfl⟩
  obtain ⟨pr, hpr⟩ : ∃ pr, pr = WT.take (n + 1).toNat := ⟨_, rfl⟩
  have hWT : WT = pr ++ rs := by rw [hpr, hrs, List.take_append_drop]
  have hprl : pr.length = (n + 1).toNat := by rw [hpr, List.length_take]; omega
  have hWl : WT.length = pr.length + rs.length := by rw [hWT, List.length_append]
  rw [← hrs] at hw2 hfall2
  refine ⟨fun p5 l5 c5 p6 l6 c6 j w m => 0 ≤ j ∧ j ≤ lks2.length ∧ m = lks2.length - j.toNat ∧ l5 = (pr ++ (lets (S2, rs, fo1) (lks2.take j.toNat)).2.1).length ∧ l6 = (lets (S2, rs, fo1) (lks2.take j.toNat)).2.2.length ∧
      Sat w₀ (tab T_uint64 1 fU64 p5 l5 c5 (pr ++ (lets (S2, rs, fo1) (lks2.take j.toNat)).2.1) * (tab T_api_Link 2 lnF p lks2.length c lks2 * (tab T_uint64 1 fU64 p' gn2.length c' gn2 * (tab T_uint64 1 fU64 p6 l6 c6 (lets (S2, rs, fo1) (lks2.take j.toNat)).2.2 * (RH r a top P (lets (S2, rs, fo1) (lks2.take j.toNat)).1 * F))))) w,
    ⟨_, by omega, by omega, rfl, ?_, rfl, ?_⟩, ?_⟩
  · show WT.length = (pr ++ rs).length
    rw [hWT]
  · show Sat w₀ (tab T_uint64 1 fU64 p4 WT.length d4 (pr ++ rs) * _) w2
    rw [← hWT]
    exact h2
  rintro u p5 l5 c5 p6' l6 c6 j w3 m ⟨j0, jl, rfl, rfl, rfl, h3⟩
  refine br_dec (fun hjlt => ?_) (fun hjge => ?_)
  · have hj : j.toNat < lks2.length := by omega
    obtain ⟨x, hx⟩ : ∃ x, lks2[j.toNat]? = some x := ⟨_, List.getElem?_eq_getElem hj⟩
    have hxo := hlk2 x (List.mem_of_getElem? hx)
    have hU := lets_inv (fo := fo1) (lks2.take j.toNat) hs2 hw2
    have esn : lets (S2, rs, fo1) (lks2.take (j + 1).toNat) = letM (lets (S2, rs, fo1) (lks2.take j.toNat)).1 (lets (S2, rs, fo1) (lks2.take j.toNat)).2.1 (lets (S2, rs, fo1) (lks2.take j.toNat)).2.2 x := by
      rw [show (j + 1).toNat = j.toNat + 1 by omega, List.take_add_one, hx]; exact lets_snoc _ _ _
    obtain ⟨U, hUe⟩ : ∃ U, U = lets (S2, rs, fo1) (lks2.take j.toNat) := ⟨_, rfl⟩
    rw [← hUe] at hU h3 esn ⊢
    obtain ⟨u1, u2, u3, u4, u5⟩ := hU
    have htl : (lks2.take j.toNat).length ≤ lks2.length := by rw [List.length_take]; omega
    have hlt : Sat w₀ (tab T_api_Link 2 lnF p lks2.length c lks2) w3 := h3.right.left
    have cl : ∀ {w : World} {g : Nat} , Sat w₀ (tab T_api_Link 2 lnF p lks2.length c lks2) w → p = some ⟨g, 0, none⟩ → w.cell? ((⟨g, j.toNat * 2, none⟩ : Addr).add 0) = some (.int .i64 x.1) ∧ w.cell? ((⟨g, j.toNat * 2, none⟩ : Addr).add 1) = some (.int .u64 x.2) := fun ht hg =>
      ⟨tab_cell lnF_len ht hg hx (j := 0) (by decide) rfl, tab_cell lnF_len ht hg hx (j := 1) (by decide) rfl⟩
    refine ⟨fun pf lf cf w => ∃ fo2, lf = fo2.length ∧ fo2 = (if x.1 = 2 then U.2.2 ++ [x.2] else U.2.2) ∧ Sat w₀ (tab T_uint64 1 fU64 p5 (pr ++ U.2.1).length c5 (pr ++ U.2.1) * (tab T_api_Link 2 lnF p lks2.length c lks2 * (tab T_uint64 1 fU64 p' gn2.length c' gn2 * (tab T_uint64 1 fU64 pf lf cf fo2 * (RH r a top P U.1 * F))))) w,
      tab_idx lnF_len hlt (by decide) j0 hx fun g hg => ldI_ok (cl hlt hg).1 <| br_split (fun e2 => ?_) (fun e2 => ?_), ?_⟩
    · have e2 : x.1 = 2 := by simpa using e2
      refine tab_idx lnF_len hlt (by decide) j0 hx fun g hg => ldI_ok (cl hlt hg).2 <| new_ok h3 fun k4 w4 h4 => ?_
      refine tab_app u64sTy fU64_len (by decide) fU64_one (x := x.2) (h4.perm (B := blk k4 #[.int .u64 x.2] 29 * (tab T_uint64 1 fU64 p6' U.2.2.length c6 U.2.2 * (tab T_uint64 1 fU64 p5 (pr ++ U.2.1).length c5 (pr ++ U.2.1) * (tab T_api_Link 2 lnF p lks2.length c lks2 * (tab T_uint64 1 fU64 p' gn2.length c' gn2 * (RH r a top P U.1 * F)))))) (by ac_rfl)) rfl (by simp only [maxLen]; omega) (by omega) fun p12 c12 w5 h5 => ⟨U.2.2 ++ [x.2], by simp, by rw [if_pos e2], h5.perm (by ac_rfl)⟩
    · have e2 : x.1 ≠ 2 := by simpa using e2
      exact ⟨U.2.2, rfl, by rw [if_neg e2], h3⟩
    rintro u pf lf cf w4 ⟨fo2, rfl, hfo2, h4⟩
    have hlt4 : Sat w₀ (tab T_api_Link 2 lnF p lks2.length c lks2) w4 := h4.right.left
    rcases letM_cases U.1 U.2.1 U.2.2 x u1 with ⟨k1, y, o, hww, hp, h0, hcp, el⟩ | ⟨k1, hor, el⟩ | ⟨k2, el⟩ | ⟨k1, k2, el⟩
    · -- an object's count falls
      rw [el] at esn
      rw [if_neg (by omega)] at hfo2
      subst hfo2
      have hh4 := h4.perm (B := RH r a top P U.1 * (tab T_uint64 1 fU64 p5 (pr ++ U.2.1).length c5 (pr ++ U.2.1) * (tab T_api_Link 2 lnF p lks2.length c lks2 * (tab T_uint64 1 fU64 p' gn2.length c' gn2 * (tab T_uint64 1 fU64 pf U.2.2.length cf U.2.2 * F))))) (by ac_rfl)
      refine tab_idx lnF_len hlt4 (by decide) j0 hx fun g hg => ldI_ok (cl hlt4 hg).1 <| br_false (by simp [k1]) <| tab_idx lnF_len hlt4 (by decide) j0 hx fun g hg => ldI_ok (cl hlt4 hg).2 <| call_mono (rh_Whole_ok hh4 u1) ?_
      rintro _ w5 ⟨rfl, ⟨hwn, rfl⟩ | ⟨y', k, o', hwn, hp', hk, rfl⟩⟩
      · rw [hww] at hwn; cases hwn
      rw [hww] at hwn
      cases hwn
      rw [hp] at hp'
      cases hp'
      obtain ⟨k', L, R, hk', h5, clo⟩ := RH.at hh4 u1.ok hp
      rw [hk] at hk'
      cases hk'
      have hro := u1.rng y o hp
      have htp := hs.tp
      have hcn := hro.cn
      have h6 := rob_open h5
      have c2' := cell_blk h6 (i := 2) (v := .int .u32 o.cn) rfl
      refine asP_ok <| br_false rfl <| nn_ok <| ldI_ok c2' <| br_false (by simp; omega) <| nn_ok <| ldI_ok c2' <| arith_u32 (by omega) (by omega) <| nn_ok <| st_ok (i := 2) h6 (by simp [rA]) fun w6 h7 => ?_
      have h7 : Sat w₀ (blk k (rA ⟨y, k, { o with cn := o.cn - 1 }, L⟩) T_tenonref11_Object * (tab T_api_Link 2 lnF L.pl o.ln.length L.cl o.ln * (tab T_uint64 1 fU64 L.pi o.inn.length L.ci o.inn * (R * (tab T_uint64 1 fU64 p5 (pr ++ U.2.1).length c5 (pr ++ U.2.1) * (tab T_api_Link 2 lnF p lks2.length c lks2 * (tab T_uint64 1 fU64 p' gn2.length c' gn2 * (tab T_uint64 1 fU64 pf U.2.2.length cf U.2.2 * F)))))))) w6 := h7
      have h8 := clo { o with cn := o.cn - 1 } L _ w6 (rob_shut (q := ⟨y, k, { o with cn := o.cn - 1 }, L⟩) h7)
      refine nn_ok <| ldI_ok (n := o.cn - 1) (cell_blk h7 (i := 2) rfl) <| br_split (fun hz => ?_) (fun hnz => ?_)
      · have hz : o.cn = 1 := by have : o.cn - 1 = 0 := by simpa using hz
                                 omega
        rw [if_pos hz] at esn
        refine nn_ok <| ldI_ok (n := y) (cell_blk h7 (i := 0) rfl) <| new_ok h8 fun k9 w7 h9 => ?_
        refine tab_app u64sTy fU64_len (by decide) fU64_one (x := y) (h9.perm (B := blk k9 #[.int .u64 y] 29 * (tab T_uint64 1 fU64 p5 (pr ++ U.2.1).length c5 (pr ++ U.2.1) * (RH r a top P (upA U.1 y { o with cn := o.cn - 1 }) * (tab T_api_Link 2 lnF p lks2.length c lks2 * (tab T_uint64 1 fU64 p' gn2.length c' gn2 * (tab T_uint64 1 fU64 pf U.2.2.length cf U.2.2 * F)))))) (by ac_rfl)) rfl (by rw [List.length_append]; simp only [maxLen]; omega) (by rw [List.length_append]; omega) fun p12 c12 w8 h10 => ?_
        refine arith_i64 (by omega) (by omega) ⟨_, ?_, by omega, by omega, rfl, ?_, ?_, ?_⟩
        · omega
        · rw [esn]; dsimp only; simp; omega
        · rw [esn]
        · rw [esn]
          dsimp only
          rw [← List.append_assoc]
          exact h10.perm (by ac_rfl)
      · have hnz : ¬ o.cn = 1 := by have : ¬ o.cn - 1 = 0 := by simpa using hnz
                                    omega
        rw [if_neg hnz] at esn
        refine arith_i64 (by omega) (by omega) ⟨_, ?_, by omega, by omega, rfl, ?_, ?_, ?_⟩
        · omega
        · rw [esn]
        · rw [esn]
        · rw [esn]
          dsimp only
          exact h8.perm (by ac_rfl)
    · -- nobody is held by it
      rw [el] at esn
      rw [if_neg (by omega)] at hfo2
      subst hfo2
      have hh4 := h4.perm (B := RH r a top P U.1 * (tab T_uint64 1 fU64 p5 (pr ++ U.2.1).length c5 (pr ++ U.2.1) * (tab T_api_Link 2 lnF p lks2.length c lks2 * (tab T_uint64 1 fU64 p' gn2.length c' gn2 * (tab T_uint64 1 fU64 pf U.2.2.length cf U.2.2 * F))))) (by ac_rfl)
      have done : ∃ m, m < lks2.length - j.toNat ∧ 0 ≤ j + 1 ∧ j + 1 ≤ lks2.length ∧ m = lks2.length - (j + 1).toNat ∧ (pr ++ U.2.1).length = (pr ++ (lets (S2, rs, fo1) (lks2.take (j + 1).toNat)).2.1).length ∧ U.2.2.length = (lets (S2, rs, fo1) (lks2.take (j + 1).toNat)).2.2.length ∧
          Sat w₀ (tab T_uint64 1 fU64 p5 (pr ++ U.2.1).length c5 (pr ++ (lets (S2, rs, fo1) (lks2.take (j + 1).toNat)).2.1) * (tab T_api_Link 2 lnF p lks2.length c lks2 * (tab T_uint64 1 fU64 p' gn2.length c' gn2 * (tab T_uint64 1 fU64 pf U.2.2.length cf (lets (S2, rs, fo1) (lks2.take (j + 1).toNat)).2.2 * (RH r a top P (lets (S2, rs, fo1) (lks2.take (j + 1).toNat)).1 * F))))) w4 := by
        rw [esn]
        exact ⟨_, by omega, by omega, by omega, rfl, rfl, rfl, h4⟩
      refine tab_idx lnF_len hlt4 (by decide) j0 hx fun g hg => ldI_ok (cl hlt4 hg).1 <| br_false (by simp [k1]) <| tab_idx lnF_len hlt4 (by decide) j0 hx fun g hg => ldI_ok (cl hlt4 hg).2 <| call_mono (rh_Whole_ok hh4 u1) ?_
      rintro _ w5 ⟨rfl, ⟨hwn, rfl⟩ | ⟨y', k, o', hwn, hp', hk, rfl⟩⟩
      · exact asP_ok <| br_true rfl <| arith_i64 (by omega) (by omega) done
      · rcases hor with hor | ⟨y, o, hor, hp, hz⟩
        · rw [hor] at hwn; cases hwn
        rw [hor] at hwn
        cases hwn
        rw [hp] at hp'
        cases hp'
        obtain ⟨k', L, R, hk', h5, clo⟩ := RH.at hh4 u1.ok hp
        rw [hk] at hk'
        cases hk'
        exact asP_ok <| br_false rfl <| nn_ok <| ldI_ok (rob_cell h5 (i := 2) (v := .int .u32 o'.cn) rfl) <| br_true (by simp [hz]) <| arith_i64 (by omega) (by omega) done
    · rw [el] at esn
      rw [if_pos k2] at hfo2
      subst hfo2
      refine tab_idx lnF_len hlt4 (by decide) j0 hx fun g hg => ldI_ok (cl hlt4 hg).1 <| br_true (by simp [k2]) <| arith_i64 (by omega) (by omega) ⟨_, ?_, by omega, by omega, rfl, ?_, ?_, ?_⟩
      · omega
      · rw [esn]
      · rw [esn]
      · rw [esn]; exact h4
    · rw [el] at esn
      rw [if_neg k2] at hfo2
      subst hfo2
      refine tab_idx lnF_len hlt4 (by decide) j0 hx fun g hg => ldI_ok (cl hlt4 hg).1 <| br_true (by simpa using k1) <| arith_i64 (by omega) (by omega) ⟨_, ?_, by omega, by omega, rfl, ?_, ?_, ?_⟩
      · omega
      · rw [esn]
      · rw [esn]
      · rw [esn]; exact h4
  · rw [List.take_of_length_le (by omega)] at h3 ⊢
    obtain ⟨u1, u2, u3, u4, u5⟩ := lets_inv (fo := fo1) lks2 hs2 hw2
    obtain ⟨U, hUe⟩ : ∃ U, U = lets (S2, rs, fo1) lks2 := ⟨_, rfl⟩
    rw [← hUe] at u1 u2 u3 u4 u5 h3 hfall2 ⊢
    have edr : (pr ++ U.2.1).drop (n + 1).toNat = U.2.1 := by rw [← hprl]; simp
    refine arith_i64 (by omega) (by omega) ⟨U.1.cnt, ?_, U.1, pr ++ U.2.1, lks2, gn2, U.2.2, rfl, rfl, rfl, rfl, by omega, by rw [List.length_append]; omega, ?_, fun h => absurd h (by omega), fun _ => ?_, u1, by rw [u4]; exact hm2, ?_, by omega, ?_, h3⟩
    · omega
    · rw [if_neg (by omega)]; rfl
    · rw [edr]; exact ⟨u2, hfall2⟩
    · split at hc2
      · have := (hneg (by assumption)).1; subst this; omega
      · omega
    · rw [List.length_append]; omega
end
end Go.Proofs.Ytgchemgnmijpdaa
