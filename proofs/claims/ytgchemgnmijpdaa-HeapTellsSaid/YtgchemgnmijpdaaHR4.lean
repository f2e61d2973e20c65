/- Contracts of the document's heap: letting go, laying, removing. No conditions. -/
import Derived.Test.YtgchemgnmijpdaaHR3
set_option linter.unusedVariables false
set_option linter.unusedSimpArgs false
set_option maxRecDepth 100000
namespace Go.Proofs.Ytgchemgnmijpdaa
open Go.Sp Go.RowKit

section
variable {w₀ w : World} {F : HP} {r a : Nat} {top : Int} {P : PM} {S : HS}
def ROutc (w₀ : World) (F : HP) (r a : Nat) (top : Int) (P : PM) (q : Res) (v : Value) (w' : World) : Prop :=
  (q.1 ≠ 0 ∧ v = mk3 q.1 none 0 0 none 0 0 ∧ Sat w₀ (RH r a top P q.2.1 * F) w') ∨ (q.1 = 0 ∧ RFell w₀ F r a top P q.2.1 q.2.2.1 q.2.2.2 (mk3 0) v w')
theorem RFell.mono {G : HP} {S : HS} {wt fo : List Int} {v : Value} {w' : World} (h : RFell w₀ (F * G) r a top P S wt fo mk2 v w') : ∃ p l c q m d, v = .tuple #[.slice p l c, .slice q m d] ∧ RFell w₀ G r a top P S wt fo (mk3 0) (mk3 0 p l c q m d) w' := by
  obtain ⟨q, pg, cg, pf, cf, g1, g2, g3, g4, g5, g6, rfl, h⟩ := h
  exact ⟨pg, _, cg, pf, _, cf, rfl, q, pg, cg, pf, cf, g1, g2, g3, g4, g5, g6, rfl, (h.perm (B := F * (tab T_uint64 1 fU64 pg q.2.1.length cg q.2.1 * (tab T_uint64 1 fU64 pf q.2.2.length cf q.2.2 * (RH r a top P q.1 * G)))) (by ac_rfl)).right⟩
/-- One link is let go. -/
theorem rh_Go1_ok {x : Int × Int} {k : Nat} (hh : Sat w₀ (blk k (lnA x) 35 * (RH r a top P S * F)) w) (hs : HInv top S) (hx : LinkOk x) :
    call Try.prog fn_tenonref11_Heap_Go #[.pointer (some ⟨r, 0, none⟩), .slice none 0 0, .slice (some ⟨k, 0, none⟩) 1 1] w (RFell w₀ F r a top P (letM S [] [] x).1 (letM S [] [] x).2.1 (letM S [] [] x).2.2 mk2) := by
  have h1 : Sat w₀ (tab T_api_Link 2 lnF (some ⟨k, 0, none⟩) 1 1 [x] * (RH r a top P S * F)) w := hh.own_full (t := 35) (sz := 2) (n := 1) rfl (by decide)
  have hc := hs.toHBase.cnt
  exact rh_Go_ok (wt := []) (lk := [x]) (tab_nil T_uint64 1 fU64 h1) rfl rfl hs WtOk.nil (by simpa using hx) (by omega) (by simp; omega)
theorem rh_Down_ok {h : Int} (hh : Sat w₀ (RH r a top P S * F) w) (hs : HInv top S) (h0 : 0 ≤ h) (h1 : h ≤ 18446744073709551615) :
    call Try.prog fn_tenonref11_Heap_Down #[.pointer (some ⟨r, 0, none⟩), .int .u64 h] w (ROutc w₀ F r a top P (dnM S h)) := by
  apply tenonref11_Heap_Down_call
  unfold tenonref11_Heap_Down
  refine call_mono (rh_Find_ok hh hs.ok) ?_
  rintro _ w1 ⟨rfl, ⟨hp, rfl⟩ | ⟨k, o, hp, hk, rfl⟩⟩
  · rw [dnM, hp]
    exact asP_ok <| br_true rfl (.inl ⟨(show (2 : Int) ≠ 0 by decide), rfl, hh⟩)
  rw [dnM, hp]
  dsimp only
  refine asP_ok <| br_false rfl ⟨rfl, new_ok hh fun k4 w2 h2 => ?_⟩
  have h2 : Sat w₀ (blk k4 (lnA (1, h)) 35 * (RH r a top P S * (emp * F))) w2 := h2.with_emp.perm (by show emp * (blk k4 (lnA (1, h)) 35 * _) = _; ac_rfl)
  refine call_mono (rh_Go1_ok h2 hs ⟨(show -9223372036854775808 ≤ (1 : Int) ∧ (1 : Int) ≤ 9223372036854775807 by decide), h0, h1⟩) ?_
  rintro v w3 h3
  obtain ⟨p, l, c, q, m, d, rfl, h4⟩ := h3.mono
  exact ⟨p, l, c, q, m, d, rfl, .inr ⟨rfl, h4⟩⟩
theorem rh_Put_ok {h slot : Int} {x : Int × Int} (hh : Sat w₀ (RH r a top P S * F) w) (hs : HInv top S) (hx : LinkOk x) :
    call Try.prog fn_tenonref11_Heap_Put #[.pointer (some ⟨r, 0, none⟩), .int .u64 h, .int .i64 slot, .agg (lnA x)] w (ROutc w₀ F r a top P (putM top S h slot x)) := by
  apply tenonref11_Heap_Put_call
  unfold tenonref11_Heap_Put
  refine new_ok hh fun k1 w1 h2 => ?_
  have h2 : Sat w₀ (blk k1 (lnA x) 35 * (RH r a top P S * F)) w1 := h2
  have hh2 := h2.perm (B := RH r a top P S * (blk k1 (lnA x) 35 * F)) (by ac_rfl)
  have bad : ∀ {e : Int} {w : World}, e ≠ 0 → Sat w₀ (blk k1 (lnA x) 35 * (RH r a top P S * F)) w → ROutc w₀ F r a top P (e, S, [], []) (mk3 e none 0 0 none 0 0) w := fun he h => .inl ⟨he, rfl, h.right⟩
  have c0 : ∀ {w : World} {X : HP}, Sat w₀ (blk k1 (lnA x) 35 * X) w → w.cell? ((⟨k1, 0, none⟩ : Addr).add 0) = some (.int .i64 x.1) := fun h => cell_blk h rfl
  have c1 : ∀ {w : World} {X : HP}, Sat w₀ (blk k1 (lnA x) 35 * X) w → w.cell? ((⟨k1, 0, none⟩ : Addr).add 1) = some (.int .u64 x.2) := fun h => cell_blk h rfl
  refine call_mono (rh_Find_ok hh2 hs.ok) ?_
  rintro _ w2 ⟨rfl, ⟨hp, rfl⟩ | ⟨k, o, hp, hk, rfl⟩⟩
  · rw [putM, hp]
    exact asP_ok <| br_true rfl (bad (by decide) h2)
  rw [putM, hp]
  dsimp only
  have no : (slot < 0 ∨ (o.ln.length : Int) ≤ slot ∨ rightB x = false) → ROutc w₀ F r a top P (if slot < 0 ∨ (o.ln.length : Int) ≤ slot ∨ rightB x = false then (1, S, [], []) else
    if x.1 = 1 then (if (upM top S x.2).2.2 ≠ 0 then ((upM top S x.2).2.2, S, [], []) else (0, layM (upM top S x.2).1 h slot.toNat x)) else (0, layM S h slot.toNat x)) (mk3 1 none 0 0 none 0 0) w2 := fun h => by
    rw [if_pos h]; exact bad (by decide) h2
  obtain ⟨k', L, R, hk', h3, _⟩ := RH.at hh2 hs.ok hp
  rw [hk] at hk'
  cases hk'
  refine asP_ok <| br_false rfl ⟨fun w => w = w2 ∧ 0 ≤ slot ∧ slot < o.ln.length ∧ rightB x = true, br_dec (fun hlt => no (.inl hlt)) fun hge => nn_ok <| ldS_ok (rob_cell h3 (i := 4) (v := .slice L.pl o.ln.length L.cl) rfl) <| br_dec (fun hle => no (.inr (.inl (by omega)))) fun hgt =>
    ldI_ok (c0 h2) <| br_dec (fun hlt => no (.inr (.inr ?_))) fun hk0 => ldI_ok (c0 h2) <| br_dec (fun hlt => no (.inr (.inr ?_))) fun hk2 => ldI_ok (c0 h2) <| br_split (fun e0 => ldI_ok (c1 h2) <| br_split (fun e1 => no (.inr (.inr ?_))) (fun e1 => ⟨rfl, by omega, by omega, ?_⟩)) (fun e0 => ⟨rfl, by omega, by omega, ?_⟩), ?_⟩
  · simp [rightB]; omega
  · simp [rightB]; omega
  · have e0 : x.1 = 0 := by simpa using e0
    have e1 : x.2 ≠ 0 := by simpa using e1
    simp [rightB, e0, e1]
  · have e0 : x.1 = 0 := by simpa using e0
    have e1 : x.2 = 0 := by simpa using e1
    simp [rightB, e0, e1]
  · have e0 : x.1 ≠ 0 := by simpa using e0
    have : x.1 = 1 ∨ x.1 = 2 := by omega
    rcases this with e | e <;> simp [rightB, e]
  rintro u _ ⟨rfl, hs0, hsl, hr⟩
  rw [if_neg (by simp [hr]; omega)]
  obtain ⟨n, rfl⟩ : ∃ n : Nat, slot = n := ⟨slot.toNat, by omega⟩
  rw [Int.toNat_natCast]
  have hn : n < o.ln.length := by omega
  obtain ⟨S1, hS1⟩ : ∃ S1, S1 = if x.1 = 1 then (upM top S x.2).1 else S := ⟨_, rfl⟩
  refine ⟨fun w => (x.1 = 1 → (upM top S x.2).2.2 = 0) ∧ Sat w₀ (blk k1 (lnA x) 35 * (RH r a top P S1 * F)) w, ldI_ok (c0 h2) <| br_split (fun e1 => ?_) (fun e1 => ?_), ?_⟩
  · have e1 : x.1 = 1 := by simpa using e1
    rw [if_pos e1]
    rw [if_pos e1] at hS1
    refine ldI_ok (c1 h2) <| call_mono (rh_Up_ok hh2 hs) ?_
    rintro _ w4 ⟨rfl, h5⟩
    refine ⟨_, _, rfl, br_split (fun he => ?_) (fun he => ?_)⟩
    · have he : (upM top S x.2).2.2 ≠ 0 := by simpa using he
      rw [if_pos he]
      refine .inl ⟨he, rfl, ?_⟩
      have e : (upM top S x.2).1 = S := by
        revert he
        unfold upM
        split
        · intro _; rfl
        · split
          · intro _; rfl
          · split
            · intro _; rfl
            · intro he; exact absurd rfl he
      rw [e] at h5
      exact (h5.perm (B := blk k1 (lnA x) 35 * (RH r a top P S * F)) (by ac_rfl)).right
    · have he : (upM top S x.2).2.2 = 0 := by simpa using he
      refine ⟨fun _ => he, ?_⟩
      rw [hS1]
      exact h5.perm (by ac_rfl)
  · have e1 : x.1 ≠ 1 := by simpa using e1
    rw [if_neg e1] at hS1
    rw [hS1]
    exact ⟨fun e => absurd e e1, h2⟩
  rintro u w5 ⟨hup, h5⟩
  have hs1 : HInv top S1 := by rw [hS1]; split; exact (upM_inv hs).1; exact hs
  obtain ⟨o1, hp1, hln, _⟩ : ∃ o1, pay S1 h = some o1 ∧ o1.ln = o.ln ∧ True := by
    rw [hS1]
    split
    · obtain ⟨o', q1, q2, _⟩ := upM_pay (top := top) (h := x.2) hs.ok hp
      exact ⟨o', q1, q2, trivial⟩
    · exact ⟨o, hp, rfl, trivial⟩
  have goal : (if x.1 = 1 then (if (upM top S x.2).2.2 ≠ 0 then ((upM top S x.2).2.2, S, [], []) else (0, layM (upM top S x.2).1 h n x)) else (0, layM S h n x) : Res) = (0, layM S1 h n x) := by
    rw [hS1]
    by_cases e1 : x.1 = 1
    · rw [if_pos e1, if_pos e1, if_neg (by simp [hup e1])]
    · rw [if_neg e1, if_neg e1]
  rw [goal]
  have elay : layM S1 h n x = letM (upA S1 h { o1 with ln := o1.ln.set n x }) [] [] (o1.ln.getD n (0, 0)) := by rw [layM, hp1]
  obtain ⟨k'', L2, R2, hk2, h8, cl2⟩ := RH.at (h5.perm (B := RH r a top P S1 * (blk k1 (lnA x) 35 * F)) (by ac_rfl)) hs1.ok hp1
  rw [hk] at hk2
  cases hk2
  have h9 : Sat w₀ (blk k (rA ⟨h, k, o1, L2⟩) T_tenonref11_Object * (tab T_api_Link 2 lnF L2.pl o1.ln.length L2.cl o1.ln * (tab T_uint64 1 fU64 L2.pi o1.inn.length L2.ci o1.inn * (R2 * (blk k1 (lnA x) 35 * F))))) w5 := rob_open h8
  obtain ⟨y, hy⟩ : ∃ y, o1.ln[n]? = some y := ⟨_, List.getElem?_eq_getElem (by rw [hln]; exact hn)⟩
  have hyd : o1.ln.getD n (0, 0) = y := by simp [List.getD, hy]
  have hyok : LinkOk y := (hs1.rng h o1 hp1).ln y (List.mem_of_getElem? hy)
  have ht9 : Sat w₀ (tab T_api_Link 2 lnF L2.pl o1.ln.length L2.cl o1.ln) w5 := h9.right.left
  refine nn_ok <| ldS_ok (cell_blk h9 (i := 4) (v := .slice L2.pl o1.ln.length L2.cl) rfl) <| tab_idx (i := (n : Int)) lnF_len ht9 (by decide) (by omega) (by rw [Int.toNat_natCast]; exact hy) fun g hg => ?_
  rw [Int.toNat_natCast]
  refine tab_ldA0 lnF_len ht9 hg hy <| new_ok h9 fun k22 w7 h10 => stA_ok h10 rfl rfl (lnA_one y) fun w8 h11 => ?_
  have h12 := (h11.perm (B := blk k (rA ⟨h, k, o1, L2⟩) T_tenonref11_Object * (tab T_api_Link 2 lnF L2.pl o1.ln.length L2.cl o1.ln * (tab T_uint64 1 fU64 L2.pi o1.inn.length L2.ci o1.inn * (R2 * (blk k1 (lnA x) 35 * F) * blk k22 (lnA y) 35)))) (by
    show blk k22 (lnA y) 35 * _ = _
    ac_rfl)).drew
  refine nn_ok <| ldS_ok (cell_blk h12 (i := 4) (v := .slice L2.pl o1.ln.length L2.cl) rfl) <| ldA_blk0 (h12.right.right.right.left.right) rfl <| tab_idx (i := (n : Int)) lnF_len h12.right.left (by decide) (by omega) (by rw [Int.toNat_natCast]; exact hy) fun g2 hg2 => ?_
  rw [Int.toNat_natCast]
  rw [← Sp.add_zero (⟨g2, n * 2, none⟩ : Addr)]
  refine tab_stA (o := 0) (n := 2) (y' := x) (vs := lnA x) lnF_len (h12.perm (B := tab T_api_Link 2 lnF L2.pl o1.ln.length L2.cl o1.ln * (blk k (rA ⟨h, k, o1, L2⟩) T_tenonref11_Object * (tab T_uint64 1 fU64 L2.pi o1.inn.length L2.ci o1.inn * (R2 * (blk k1 (lnA x) 35 * F) * blk k22 (lnA y) 35)))) (by ac_rfl)) hg2 hy (by decide) rfl (lnA_one x) rfl fun w9 h13 => ?_
  have el : (o1.ln.set n x).length = o1.ln.length := by simp
  have h14 := cl2 { o1 with ln := o1.ln.set n x } L2 (blk k1 (lnA x) 35 * (blk k22 (lnA y) 35 * F)) w9 (rob_shut (q := ⟨h, k, { o1 with ln := o1.ln.set n x }, L2⟩) (by
    unfold rA
    dsimp only
    rw [el]
    exact h13.perm (by
      show _ = blk k (rA ⟨h, k, o1, L2⟩) T_tenonref11_Object * _
      ac_rfl)))
  refine ldA_blk0 (h14.right.right) rfl ⟨rfl, new_ok h14 fun k29 w10 h15 => ?_⟩
  have h15 : Sat w₀ (blk k29 (lnA y) 35 * (RH r a top P (upA S1 h { o1 with ln := o1.ln.set n x }) * (blk k1 (lnA x) 35 * blk k22 (lnA y) 35 * F))) w10 := h15.perm (by
    show blk k29 (lnA y) 35 * _ = _
    ac_rfl)
  refine call_mono (rh_Go1_ok h15 (hs1.slot hp1 hx) hyok) ?_
  rintro v w11 h16
  rw [hyd] at elay
  rw [elay]
  obtain ⟨p, l, c, q, m, d, rfl, h17⟩ := h16.mono
  exact ⟨p, l, c, q, m, d, rfl, .inr ⟨rfl, h17⟩⟩
theorem rh_Remove_ok {p : Option Addr} {c : Nat} {l : List Int} (hh : Sat w₀ (RH r a top P S * F) w) (hs : HInv top S) (gx : Gives F 1 p l.length (u64L l)) (hl : l.length ≤ 1000) :
    call Try.prog fn_tenonref11_Heap_Remove #[.pointer (some ⟨r, 0, none⟩), .slice p l.length c] w (ROutc w₀ F r a top P (remM S l)) := by
  apply tenonref11_Heap_Remove_call
  unfold tenonref11_Heap_Remove
  have bad : ∀ {e : Int} {w : World}, e ≠ 0 → Sat w₀ (RH r a top P S * F) w → ROutc w₀ F r a top P (e, S, [], []) (mk3 e none 0 0 none 0 0) w := fun he h => .inl ⟨he, rfl, h⟩
  -- all of them are
  refine ⟨fun n w m => 0 ≤ n ∧ n ≤ l.length ∧ m = l.length - n.toNat ∧ (∀ x ∈ l.take n.toNat, ∃ o, pay S x = some o) ∧ Sat w₀ (RH r a top P S * F) w, ⟨_, by omega, by omega, rfl, by simp, hh⟩, ?_⟩
  rintro u n w2 m ⟨n0, nl, rfl, hall, h2⟩
  refine br_dec (fun hlt => ?_) (fun hge => ?_)
  · have hi : n.toNat < l.length := by omega
    obtain ⟨x, hx⟩ : ∃ x, l[n.toNat]? = some x := ⟨_, List.getElem?_eq_getElem hi⟩
    have hxm := List.mem_of_getElem? hx
    have rd := gx _ _ h2.right
    refine idx_ok rd n0 (by omega) fun ad had => ldI_ok (n := x) (u64_at rd had hx) <| call_mono (rh_Find_ok h2 hs.ok) ?_
    rintro _ w3 ⟨rfl, ⟨hp, rfl⟩ | ⟨k, o, hp, hk, rfl⟩⟩
    · have e : remM S l = (2, S, [], []) := by
        rw [remM, if_pos]
        rw [List.any_eq_true]
        exact ⟨x, hxm, by rw [hp]; rfl⟩
      rw [e]
      exact asP_ok <| br_true rfl (bad (by decide) h2)
    · refine asP_ok <| br_false rfl <| arith_i64 (by omega) (by omega) ⟨_, ?_, by omega, by omega, rfl, fun y hy => ?_, h2⟩
      · omega
      · rw [show (n + 1).toNat = n.toNat + 1 by omega, List.take_add_one, hx] at hy
        rcases List.mem_append.1 hy with hy | hy
        · exact hall y hy
        · simp at hy; subst hy; exact ⟨o, hp⟩
  rw [List.take_of_length_le (by omega)] at hall
  clear hge nl n0
  have hany : ¬ l.any (fun h => (pay S h).isNone) = true := by
    rw [List.any_eq_true]
    rintro ⟨x, hx, he⟩
    obtain ⟨o, ho⟩ := hall x hx
    rw [ho] at he
    cases he
  rw [remM, if_neg hany]
  have no : ∀ {w}, Sat w₀ (RH r a top P S * F) w → (¬ l.Nodup ∨ ∃ h ∈ l, ∃ o, pay S h = some o ∧ o.ou ≠ 0) → ROutc w₀ F r a top P (if ¬ l.Nodup ∨ ∃ h ∈ l, ∃ o, pay S h = some o ∧ o.ou ≠ 0 then (1, S, [], []) else (0, zeroL S l, l, [])) (mk3 1 none 0 0 none 0 0) w := fun hw h => by
    rw [if_pos h]
    exact bad (by decide) hw
  -- none is twice, none an inner
  refine ⟨fun n w m => 0 ≤ n ∧ n ≤ l.length ∧ m = l.length - n.toNat ∧ (l.take n.toNat).Nodup ∧ (∀ x ∈ l.take n.toNat, ∀ o, pay S x = some o → o.ou = 0) ∧ Sat w₀ (RH r a top P S * F) w, ⟨_, by omega, by omega, rfl, by simp, by simp, h2⟩, ?_⟩
  rintro u n w4 m ⟨n0, nl, rfl, hnd, hou, h4⟩
  refine br_dec (fun hlt => ?_) (fun hge => ?_)
  · have hi : n.toNat < l.length := by omega
    obtain ⟨x, hx⟩ : ∃ x, l[n.toNat]? = some x := ⟨_, List.getElem?_eq_getElem hi⟩
    have hxm := List.mem_of_getElem? hx
    obtain ⟨o, hp⟩ := hall x hxm
    refine ⟨fun j w m => 0 ≤ j ∧ j ≤ n ∧ m = n.toNat - j.toNat ∧ (∀ y ∈ l.take j.toNat, y ≠ x) ∧ Sat w₀ (RH r a top P S * F) w, ⟨_, by omega, by omega, rfl, by simp, h4⟩, ?_⟩
    rintro u j w5 m ⟨j0, jl, rfl, hne, h5⟩
    refine br_dec (fun hjlt => ?_) (fun hjge => ?_)
    · have hj : j.toNat < l.length := by omega
      obtain ⟨y, hy⟩ : ∃ y, l[j.toNat]? = some y := ⟨_, List.getElem?_eq_getElem hj⟩
      have h5 := h5.drew
      have rd := gx _ _ h5.right
      refine idx_ok rd j0 (by omega) fun ad had => ldI_ok (n := y) (u64_at rd had hy) <| idx_ok rd n0 (by omega) fun ad had => ldI_ok (n := x) (u64_at rd had hx) <| br_split (fun he => ?_) (fun hne2 => ?_)
      · have he : y = x := by simpa using he
        refine no h5 (.inl fun hN => ?_)
        have := (List.getElem?_inj hj hN).1 (hy.trans (by rw [he, hx]))
        omega
      · have hne2 : y ≠ x := by simpa using hne2
        refine arith_i64 (by omega) (by omega) ⟨_, ?_, by omega, by omega, rfl, fun z hz => ?_, h5⟩
        · omega
        · rw [show (j + 1).toNat = j.toNat + 1 by omega, List.take_add_one, hy] at hz
          rcases List.mem_append.1 hz with hz | hz
          · exact hne z hz
          · simp at hz; subst hz; exact hne2
    · have hjn : j = n := by omega
      subst hjn
      have rd := gx _ _ h5.right
      refine idx_ok rd n0 (by omega) fun ad had => ldI_ok (n := x) (u64_at rd had hx) <| call_mono (rh_Find_ok h5 hs.ok) ?_
      rintro _ w7 ⟨rfl, ⟨hp', rfl⟩ | ⟨k, o', hp', hk, rfl⟩⟩
      · rw [hp] at hp'; cases hp'
      rw [hp] at hp'
      cases hp'
      obtain ⟨k', L, R, hk', h7, _⟩ := RH.at h5 hs.ok hp
      rw [hk] at hk'
      cases hk'
      refine asP_ok <| nn_ok <| ldI_ok (n := o.ou) (rob_cell h7 (i := 1) rfl) <| br_split (fun hne => no h5 (.inr ⟨x, hxm, o, hp, by simpa using hne⟩)) (fun he => ?_)
      have he : o.ou = 0 := by simpa using he
      have etk : l.take (j + 1).toNat = l.take j.toNat ++ [x] := by rw [show (j + 1).toNat = j.toNat + 1 by omega, List.take_add_one, hx]; rfl
      refine arith_i64 (by omega) (by omega) ⟨_, ?_, by omega, by omega, rfl, ?_, ?_, h5⟩
      · omega
      · rw [etk]
        refine List.nodup_append.2 ⟨hnd, by simp, fun y hy z hz e => ?_⟩
        rw [List.mem_singleton] at hz
        exact hne y hy (hz ▸ e)
      · intro y hy o' ho'
        rw [etk] at hy
        rcases List.mem_append.1 hy with hy | hy
        · exact hou y hy o' ho'
        · rw [List.mem_singleton] at hy; subst hy; rw [hp] at ho'; cases ho'; exact he
  rw [List.take_of_length_le (by omega)] at hnd hou
  clear hge nl n0 no
  rw [if_neg (by
    rintro (h | ⟨x, hx, o, hp, ho⟩)
    · exact h hnd
    · exact ho (hou x hx o hp))]
  have hgoers : ∀ h ∈ l, ∃ o, pay S h = some o ∧ o.ou = 0 := fun x hx => by
    obtain ⟨o, hp⟩ := hall x hx
    exact ⟨o, hp, hou x hx o hp⟩
  have hcc := hs.toHBase.cnt
  -- their counts are gone
  refine ⟨fun n w m => 0 ≤ n ∧ n ≤ l.length ∧ m = l.length - n.toNat ∧ Sat w₀ (RH r a top P (zeroL S (l.take n.toNat)) * F) w, ⟨_, by omega, by omega, rfl, h4⟩, ?_⟩
  rintro u n w6 m ⟨n0, nl, rfl, h6⟩
  refine br_dec (fun hlt => ?_) (fun hge => ?_)
  · have hi : n.toNat < l.length := by omega
    obtain ⟨x, hx⟩ : ∃ x, l[n.toNat]? = some x := ⟨_, List.getElem?_eq_getElem hi⟩
    have hxm := List.mem_of_getElem? hx
    obtain ⟨o, hp⟩ := hall x hxm
    obtain ⟨q1, q2, q3, q4⟩ := zeroL_ok (l.take n.toNat) hs
    have rd := gx _ _ h6.right
    have hpz : ∃ o', pay (zeroL S (l.take n.toNat)) x = some o' := ⟨_, by rw [q4, hp]; rfl⟩
    obtain ⟨o', hpz⟩ := hpz
    refine idx_ok rd n0 (by omega) fun ad had => ldI_ok (n := x) (u64_at rd had hx) <| call_mono (rh_Find_ok h6 q1.ok) ?_
    rintro _ w7 ⟨rfl, ⟨hp', rfl⟩ | ⟨k, o2, hp', hk, rfl⟩⟩
    · rw [hpz] at hp'; cases hp'
    rw [hpz] at hp'
    cases hp'
    obtain ⟨k', L, R, hk', h7, cl⟩ := RH.at h6 q1.ok hpz
    rw [hk] at hk'
    cases hk'
    refine asP_ok <| nn_ok <| st_ok (i := 2) (rob_open h7) (by simp [rA]) fun w8 h8 => ?_
    have h9 := cl { o' with cn := 0 } L F w8 (rob_shut (q := ⟨x, k, { o' with cn := 0 }, L⟩) h8)
    have etk : zeroL S (l.take (n + 1).toNat) = upA (zeroL S (l.take n.toNat)) x { o' with cn := 0 } := by
      rw [show (n + 1).toNat = n.toNat + 1 by omega, List.take_add_one, hx]
      show zeroL S (l.take n.toNat ++ [x]) = _
      rw [zeroL_snoc, hpz]
    refine arith_i64 (by omega) (by omega) ⟨_, ?_, by omega, by omega, rfl, ?_⟩
    · omega
    · rw [etk]; exact h9
  rw [List.take_of_length_le (by omega)] at h6
  obtain ⟨q1, q2, q3, q4⟩ := remM_ok hs hnd hgoers
  have hln : l.length ≤ S.cnt := nodup_cnt hs.ok hnd fun x hx => hall x hx
  refine new_ok h6 fun k48 w9 h9 => ?_
  have h10 := h9.own_full (t := T_uint64) (sz := 1) (n := 0) rfl (by decide)
  have hold : Rd w9 1 p l.length (u64L l) := gx _ _ h10.right.right
  refine app_ok u64sTy h10 hold (fun u hu => ?_) (by simp only [maxLen]; omega) (by omega) fun p' c' w' h11 => ?_
  · obtain ⟨x, _, rfl⟩ := List.mem_map.1 hu
    rfl
  have h12 : Sat w₀ (tab T_uint64 1 fU64 p' (0 + l.length) c' l * (RH r a top P (zeroL S l) * F)) w' := by
    show Sat w₀ (own T_uint64 1 p' (0 + l.length) c' (l.flatMap fU64) * _) w'
    rw [u64L_flat]
    exact h11
  refine call_mono (rh_Go_ok (lk := []) (F := emp * F) (p2 := none) (l2 := 0) (c2 := 0) ((tab_nil T_api_Link 2 lnF h12.with_emp).perm (by ac_rfl)) (by omega) rfl q1 q2 (fun x hx => by cases hx) (by omega) (by simp only [List.length_nil]; omega)) ?_
  rintro v w11 h16
  obtain ⟨p, l', c, q, m, d, rfl, h17⟩ := h16.mono
  exact ⟨p, l', c, q, m, d, rfl, .inr ⟨rfl, h17⟩⟩
end
end Go.Proofs.Ytgchemgnmijpdaa
