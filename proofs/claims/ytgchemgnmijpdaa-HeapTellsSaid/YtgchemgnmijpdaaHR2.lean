/- Contracts of the document's heap: making, taking away. No conditions. -/
import Derived.Test.YtgchemgnmijpdaaHR1
set_option linter.unusedVariables false
set_option linter.unusedSimpArgs false
set_option maxRecDepth 100000
namespace Go.Proofs.Ytgchemgnmijpdaa
open Go.Sp Go.RowKit

theorem filter_erase {l : List RO} (hn : (l.map (·.h)).Nodup) : ∀ {i : Nat} {q : RO}, l[i]? = some q → l.filter (fun x => decide (x.h ≠ q.h)) = l.eraseIdx i := by
  induction l with
  | nil => intro i q h; simp at h
  | cons z l ih =>
    intro i q h
    rw [List.map_cons, List.nodup_cons] at hn
    cases i with
    | zero =>
      simp at h
      subst h
      rw [List.eraseIdx_cons_zero, List.filter_cons]
      simp only [ne_eq, not_true_eq_false, decide_false, Bool.false_eq_true, if_false]
      rw [List.filter_eq_self]
      intro x hx
      have : x.h ≠ z.h := fun e => hn.1 (List.mem_map.2 ⟨x, hx, e⟩)
      simpa using this
    | succ i =>
      have h : l[i]? = some q := by simpa using h
      rw [List.eraseIdx_cons_succ, List.filter_cons, ih hn.2 h]
      have : z.h ≠ q.h := fun e => hn.1 (List.mem_map.2 ⟨q, List.mem_of_getElem? h, e.symm⟩)
      simp [this]
section
variable {w₀ w : World} {F : HP} {r a : Nat} {top : Int} {P : PM} {S : HS}
theorem RSeen.putR {l : List RO} (hs : RSeen P S l) (ho : AOk S) {n : OM} (he : (put S n).2.2 = 0) {k : Nat} {L : Loc} : RSeen (updP P (put S n).2.1 (some k)) (put S n).1 (l ++ [⟨(put S n).2.1, k, n, L⟩]) := by
  have hfr := pay_fresh ho he
  have hne : ∀ q ∈ l, q.h ≠ (put S n).2.1 := fun q hq e => by
    have := (hs.pay q.h q.o).2 ⟨q, hq, rfl, rfl⟩
    rw [e, hfr] at this
    cases this
  refine ⟨?_, fun x y => ?_, fun q hq => ?_⟩
  · rw [List.map_append]
    refine List.nodup_append.2 ⟨hs.nd, by simp, fun a ha b hb e => ?_⟩
    obtain ⟨q, hq, rfl⟩ := List.mem_map.1 ha
    have hb : b = (put S n).2.1 := by simpa using hb
    exact hne q hq (e.trans hb)
  · rw [pay_put ho he]
    constructor
    · intro h1
      split at h1
      · rename_i ex
        cases h1
        exact ⟨⟨(put S n).2.1, k, n, L⟩, by simp, ex.symm, rfl⟩
      · obtain ⟨q, hq, e1, e2⟩ := (hs.pay x y).1 h1
        exact ⟨q, by simp [hq], e1, e2⟩
    · rintro ⟨q, hq, rfl, rfl⟩
      rcases List.mem_append.1 hq with hq | hq
      · rw [if_neg (hne q hq)]
        exact (hs.pay _ _).2 ⟨q, hq, rfl, rfl⟩
      · rw [List.mem_singleton] at hq
        subst hq
        rw [if_pos rfl]
  · rcases List.mem_append.1 hq with hq | hq
    · rw [updP, if_neg (hne q hq)]; exact hs.ptr q hq
    · rw [List.mem_singleton] at hq; subst hq; rw [updP, if_pos rfl]
theorem RSeen.rmR {l : List RO} (hs : RSeen P S l) (ho : AOk S) {i : Nat} {q : RO} (hi : l[i]? = some q) : RSeen P (rmA z0 S q.h) (l.eraseIdx i) := by
  have hp : Proofs.Ytgchemgnmijpdaa.pay S q.h = some q.o := (hs.pay _ _).2 ⟨q, List.mem_of_getElem? hi, rfl, rfl⟩
  rw [← filter_erase hs.nd hi]
  refine ⟨(hs.nd).sublist ((List.filter_sublist).map _), fun x y => ?_, fun z hz => hs.ptr z (List.mem_filter.1 hz).1⟩
  rw [pay_rm ho hp]
  constructor
  · intro h1
    split at h1
    · cases h1
    · rename_i ex
      obtain ⟨z, hz, e1, e2⟩ := (hs.pay x y).1 h1
      exact ⟨z, List.mem_filter.2 ⟨hz, by simpa [e1] using ex⟩, e1, e2⟩
  · rintro ⟨z, hz, rfl, rfl⟩
    obtain ⟨hz, hne⟩ := List.mem_filter.1 hz
    rw [if_neg (by simpa using hne)]
    exact (hs.pay _ _).2 ⟨z, hz, rfl, rfl⟩
theorem rh_Make_ok {slots outer : Int} (hh : Sat w₀ (RH r a top P S * F) w) (hs : HInv top S) :
    call Try.prog fn_tenonref11_Heap_Make #[.pointer (some ⟨r, 0, none⟩), .int .i64 slots, .int .u64 outer] w fun v w' => v = .tuple #[.int .u64 (mkM S slots outer).2.1, .int .i64 (mkM S slots outer).2.2] ∧ ∃ P', Sat w₀ (RH r a top P' (mkM S slots outer).1 * F) w' := by
  apply tenonref11_Heap_Make_call
  unfold tenonref11_Heap_Make
  refine br_dec (fun hlt => ?_) (fun hge => br_dec (fun hgt => ?_) (fun hle => ?_))
  · rw [mkM, if_pos (.inl hlt)]; exact ⟨rfl, P, hh⟩
  · rw [mkM, if_pos (.inr (by omega))]; exact ⟨rfl, P, hh⟩
  obtain ⟨n, rfl⟩ : ∃ n : Nat, slots = n := ⟨slots.toNat, by omega⟩
  have e0 : mkM S n outer = if outer = 0 then put S (newO n 0) else match pay S outer with
      | none => (S, 0, 2)
      | some o => if o.ou ≠ 0 then (S, 0, 1) else
        if (put S (newO n outer)).2.2 = 0 then (upA (put S (newO n outer)).1 outer { o with inn := o.inn ++ [(put S (newO n outer)).2.1] }, (put S (newO n outer)).2.1, 0) else (S, 0, 3) := by
    rw [mkM, if_neg (by omega)]
    simp only [Int.toNat_natCast]
    rfl
  rw [e0]
  have hok := hs.ok
  refine ⟨fun p w' => w' = w ∧ ((outer = 0 ∧ p = none) ∨ ∃ k o, outer ≠ 0 ∧ pay S outer = some o ∧ o.ou = 0 ∧ P outer = some k ∧ p = some ⟨k, 0, none⟩), br_split (fun hne => ?_) (fun hz => ⟨rfl, .inl ⟨by simpa using hz, rfl⟩⟩), ?_⟩
  · have hne : outer ≠ 0 := by simpa using hne
    rw [if_neg hne]
    refine call_mono (rh_Find_ok hh hok) ?_
    rintro _ w1 ⟨rfl, ⟨hp, rfl⟩ | ⟨k, o, hp, hk, rfl⟩⟩
    · rw [hp]
      exact asP_ok <| br_true rfl ⟨rfl, P, hh⟩
    · rw [hp]
      dsimp only
      obtain ⟨k', L, R, hk', h2, _⟩ := RH.at hh hok hp
      rw [hk] at hk'
      cases hk'
      refine asP_ok <| br_false rfl <| nn_ok <| ldI_ok (n := o.ou) (rob_cell h2 (i := 1) rfl) <| br_split (fun h => ?_) (fun h => ?_)
      · rw [if_pos (by simpa using h)]; exact ⟨rfl, P, hh⟩
      · exact ⟨rfl, .inr ⟨k, o, hne, by first | exact hp | rfl, by simpa using h, hk, rfl⟩⟩
  rintro u p7 w2 ⟨rfl, hp7⟩
  obtain ⟨l, p, c, hsn, h2⟩ := RH.open_ hh
  obtain ⟨x, hx⟩ : ∃ x, x = (put S (newO n outer)).2.1 := ⟨_, rfl⟩
  have hpm := put_mapA (f := zI) hok (newO n outer)
  have hpm : put (mapA zI S) 0 = (mapA zI (put S (newO n outer)).1, (put S (newO n outer)).2) := hpm
  have hll := hsn.cnt hok
  have hcc := hs.toHBase.cnt
  refine nn_ok <| ldP_ok (RH.c1 hh) <| call_mono (ref_Put_ok (x := 0) (h2.perm (B := RAr a (mapA zI S) * (blk r (rhA a top p l.length c) T_tenonref11_Heap * (tab 113 1 rpF p l.length c l * (robs l * F)))) (by ac_rfl)) hok.mapA) ?_
  rw [hpm]
  rintro _ w3 ⟨rfl, h3⟩
  dsimp only at h3 ⊢
  refine asI_ok <| br_split (fun hz => ?_) (fun hnz => ?_)
  · have hz : (put S (newO n outer)).2.1 = 0 := by simpa using hz
    have he := (put_zero hok).1 hz
    rw [put_same hok he] at h3
    have h4 : Sat w₀ (RH r a top P S * F) w3 := RH.shut hsn (h3.perm (by ac_rfl)) rfl
    rcases hp7 with ⟨rfl, rfl⟩ | ⟨k, o, hne, hp, h0, hk, rfl⟩
    · rw [if_pos rfl, put_same hok he]; exact ⟨rfl, P, h4⟩
    · rw [if_neg hne, hp]
      dsimp only
      rw [if_neg (show ¬ o.ou ≠ 0 from fun q => q h0), if_neg he]
      exact ⟨rfl, P, h4⟩
  have he : (put S (newO n outer)).2.2 = 0 := by
    by_cases q : (put S (newO n outer)).2.2 = 0
    · exact q
    · have := (put_zero hok).2 q
      rw [this] at hnz
      simp at hnz
  rw [← hx]
  have h4 := (h3.perm (B := blk r (rhA a top p l.length c) T_tenonref11_Heap * (RAr a (mapA zI (put S (newO n outer)).1) * (tab 113 1 rpF p l.length c l * (robs l * F)))) (by ac_rfl)).drew
  refine nn_ok <| ldS_ok (cell_blk h4 (i := 2) rfl) <| make_ok (l := n) (c := n) linksTy h4 (Nat.le_refl _) (by omega) (by omega) fun p1 w4 h5 => ⟨cell_blk h5.right (i := 2) rfl, ?_⟩
  have hzl : ((zerosOf (.agg (lnA (0, 0))) n).take (n * 2)) = (List.replicate n ((0, 0) : Int × Int)).flatMap lnF := by
    rw [zeros_links (by omega), List.take_of_length_le]
    rw [flatLen lnF_len, List.length_replicate]
    exact Nat.le_refl _
  rw [hzl] at h5
  refine new_ok h5 fun k15 w5 h6 => new_ok h6 fun k16 w6 h7 => ?_
  have el : (newO n outer).ln.length = n := by simp [newO]
  have h8 : Sat w₀ (blk k16 #[.pointer (some ⟨k15, 0, none⟩)] 113 * (tab 113 1 rpF p l.length c l * (robH ⟨x, k15, newO n outer, ⟨p1, n, none, 0⟩⟩ * (blk r (rhA a top p l.length c) T_tenonref11_Heap * (RAr a (mapA zI (put S (newO n outer)).1) * (robs l * F)))))) w6 := by
    have := rob_shut (q := ⟨x, k15, newO n outer, ⟨p1, n, none, 0⟩⟩) (F := blk k16 #[.pointer (some ⟨k15, 0, none⟩)] 113 * (tab 113 1 rpF p l.length c l * (blk r (rhA a top p l.length c) T_tenonref11_Heap * (RAr a (mapA zI (put S (newO n outer)).1) * (robs l * F))))) (w := w6) (w₀ := w₀) ((tab_nil T_uint64 1 fU64 h7).perm (by
      have ec : rA ⟨x, k15, newO n outer, ⟨p1, n, none, 0⟩⟩ = #[.int .u64 x, .int .u64 outer, .int .u32 1, .int .i64 0, .slice p1 n n, .slice none 0 0] := by simp [rA, newO]
      rw [ec]
      dsimp only
      rw [el]
      show tab T_uint64 1 fU64 none 0 0 [] * (blk k16 _ 113 * (blk k15 _ T_tenonref11_Object * (own T_api_Link 2 p1 n n ((List.replicate n ((0, 0) : Int × Int)).flatMap lnF) * _))) = blk k15 _ T_tenonref11_Object * (own T_api_Link 2 p1 n n ((List.replicate n ((0, 0) : Int × Int)).flatMap lnF) * (tab T_uint64 1 fU64 none 0 0 [] * _))
      ac_rfl))
    exact this.perm (by ac_rfl)
  refine tab_app robjsTy rpF_len (by decide) rpF_one (x := ⟨x, k15, newO n outer, ⟨p1, n, none, 0⟩⟩) h8 rfl (by simp only [maxLen]; omega) (by omega) fun p' c' w7 h9 => ?_
  refine nn_ok <| st_ok (i := 2) (h9.perm (B := blk r (rhA a top p l.length c) T_tenonref11_Heap * (tab 113 1 rpF p' (l.length + 1) c' (l ++ [⟨x, k15, newO n outer, ⟨p1, n, none, 0⟩⟩]) * (robH ⟨x, k15, newO n outer, ⟨p1, n, none, 0⟩⟩ * (RAr a (mapA zI (put S (newO n outer)).1) * (robs l * F))))) (by ac_rfl)) (by simp [rhA]) fun w8 h10 => ?_
  have h11 : Sat w₀ (RH r a top (updP P x (some k15)) (put S (newO n outer)).1 * F) w8 := by
    have hsn2 := hsn.putR hok he (k := k15) (L := ⟨p1, n, none, 0⟩)
    rw [← hx] at hsn2
    refine RH.shut (p := p') (c := c') (m := l.length + 1) hsn2 ?_ (by simp)
    rw [robs_snoc]
    exact h10.perm (by
      show blk r (rhA a top p' (l.length + 1) c') T_tenonref11_Heap * _ = _
      ac_rfl)
  rcases hp7 with ⟨rfl, rfl⟩ | ⟨k, o, hne, hp, h0, hk, rfl⟩
  · rw [if_pos rfl]
    exact br_false rfl ⟨by rw [← hx, he], _, h11⟩
  · rw [if_neg hne, hp]
    dsimp only
    rw [if_neg (show ¬ o.ou ≠ 0 from fun q => q h0), if_pos he]
    have hfr := pay_fresh hok he
    rw [← hx] at hfr
    have hwx : outer ≠ x := fun e => by rw [e, hfr] at hp; cases hp
    have hokp := hok.put (newO n outer)
    have hpw : pay (put S (newO n outer)).1 outer = some o := by rw [pay_put hok he, ← hx, if_neg hwx]; exact hp
    obtain ⟨k'', L2, R2, hk2, h12, cl2⟩ := RH.at h11 hokp hpw
    have hk3 : k'' = k := by
      rw [updP, if_neg hwx, hk] at hk2
      exact (Option.some.inj hk2).symm
    subst hk3
    have hil := hs.innlen hp
    have h13 : Sat w₀ (blk k'' (rA ⟨outer, k'', o, L2⟩) T_tenonref11_Object * (tab T_api_Link 2 lnF L2.pl o.ln.length L2.cl o.ln * (tab T_uint64 1 fU64 L2.pi o.inn.length L2.ci o.inn * (R2 * F)))) w8 := rob_open h12
    refine br_true rfl <| nn_ok <| ldS_ok (cell_blk h13 (i := 5) (v := .slice L2.pi o.inn.length L2.ci) rfl) <| new_ok h13 fun k21 w9 h14 => ?_
    refine tab_app u64sTy fU64_len (by decide) fU64_one (x := x) (h14.perm (B := blk k21 #[.int .u64 x] 29 * (tab T_uint64 1 fU64 L2.pi o.inn.length L2.ci o.inn * (blk k'' (rA ⟨outer, k'', o, L2⟩) T_tenonref11_Object * (tab T_api_Link 2 lnF L2.pl o.ln.length L2.cl o.ln * (R2 * F))))) (by ac_rfl)) rfl (by simp only [maxLen]; omega) (by omega) fun p'' c'' w10 h15 => ?_
    refine nn_ok <| st_ok (i := 5) (h15.perm (B := blk k'' (rA ⟨outer, k'', o, L2⟩) T_tenonref11_Object * (tab T_api_Link 2 lnF L2.pl o.ln.length L2.cl o.ln * (tab T_uint64 1 fU64 p'' (o.inn.length + 1) c'' (o.inn ++ [x]) * (R2 * F)))) (by ac_rfl)) (by simp [rA]) fun w11 h16 => ⟨rfl, updP P x (some k15), ?_⟩
    refine cl2 { o with inn := o.inn ++ [x] } ⟨L2.pl, L2.cl, p'', c''⟩ F w11 (rob_shut (q := ⟨outer, k'', { o with inn := o.inn ++ [x] }, ⟨L2.pl, L2.cl, p'', c''⟩⟩) ?_)
    have el2 : (o.inn ++ [x]).length = o.inn.length + 1 := by simp
    unfold rA
    dsimp only
    rw [el2]
    exact h16
theorem rh_away_ok {h : Int} {o : OM} (hh : Sat w₀ (RH r a top P S * F) w) (hs : HBase top S) (hp : pay S h = some o) :
    call Try.prog fn_tenonref11_Heap_away #[.pointer (some ⟨r, 0, none⟩), .int .u64 h] w fun v w' => ∃ k L, v = .pointer (some ⟨k, 0, none⟩) ∧ P h = some k ∧ Sat w₀ (robH ⟨h, k, o, L⟩ * (RH r a top P (rmA z0 S h) * F)) w' := by
  apply tenonref11_Heap_away_call
  unfold tenonref11_Heap_away
  have hok := hs.ok
  have hcc := hs.cnt
  refine call_mono (rh_Find_ok hh hok) ?_
  rintro _ w1 ⟨rfl, ⟨hp', rfl⟩ | ⟨k, o', hp', hk, rfl⟩⟩
  · rw [hp] at hp'; cases hp'
  rw [hp] at hp'
  cases hp'
  obtain ⟨l, p, c, hsn, h2⟩ := RH.open_ hh
  have hll := hsn.cnt hok
  refine asP_ok ⟨fun pp ll cc n w m => 0 ≤ n ∧ n ≤ l.length ∧ m = l.length - n.toNat ∧ ll = ((l.take n.toNat).filter fun x => decide (x.h ≠ h)).length ∧ Sat w₀ (tab 113 1 rpF pp ll cc ((l.take n.toNat).filter fun x => decide (x.h ≠ h)) * (blk r (rhA a top p l.length c) T_tenonref11_Heap * (RAr a (mapA zI S) * (tab 113 1 rpF p l.length c l * (robs l * F))))) w,
    ⟨_, by decide, by omega, rfl, rfl, tab_nil _ _ _ h2⟩, ?_⟩
  rintro u pp ll cc n w2 m ⟨n0, nl, rfl, rfl, h3⟩
  have c2 := cell_blk h3.right (i := 2) (v := .slice p l.length c) rfl
  have ht : Sat w₀ (tab 113 1 rpF p l.length c l) w2 := h3.right.right.right.left
  refine nn_ok <| ldS_ok c2 <| br_dec (fun hlt => ?_) (fun hge => ?_)
  · have hi : n.toNat < l.length := by omega
    obtain ⟨q, hq⟩ : ∃ q, l[n.toNat]? = some q := ⟨_, List.getElem?_eq_getElem hi⟩
    have cq : w2.cell? ((⟨q.k, 0, none⟩ : Addr).add 0) = some (.int .u64 q.h) := rob_cell (F := robs (l.eraseIdx n.toNat)) (by have := h3.right.right.right.right.left; rwa [robs_pull hq] at this) rfl
    have cp : ∀ {g : Nat}, p = some ⟨g, 0, none⟩ → w2.cell? (⟨g, n.toNat * 1, none⟩ : Addr) = some (.pointer (some ⟨q.k, 0, none⟩)) := fun hg => by
      have := tab_cell rpF_len ht hg hq (j := 0) (by decide) rfl
      rwa [Sp.add_zero] at this
    have etk : l.take (n + 1).toNat = l.take n.toNat ++ [q] := by rw [show (n + 1).toNat = n.toNat + 1 by omega, List.take_add_one, hq]; rfl
    have hfl : ((l.take n.toNat).filter fun x => decide (x.h ≠ h)).length ≤ l.length := Nat.le_trans (List.length_filter_le _ _) (by rw [List.length_take]; omega)
    refine nn_ok <| ldS_ok c2 <| tab_idx rpF_len ht (by decide) n0 hq fun g hg => ldP_ok (cp hg) <| nn_ok <| ldI_ok cq <| br_split (fun hne => ?_) (fun he => ?_)
    · have hne : q.h ≠ h := by simpa using hne
      refine nn_ok <| ldS_ok c2 <| tab_idx rpF_len ht (by decide) n0 hq fun g hg => ldP_ok (cp hg) <| new_ok h3 fun k21 w3 h4 => tab_app robjsTy rpF_len (by decide) rpF_one (x := q) h4 rfl (by simp only [maxLen]; omega) (by omega) fun p' c' w4 h5 => ?_
      have ef : (l.take (n + 1).toNat).filter (fun x => decide (x.h ≠ h)) = (l.take n.toNat).filter (fun x => decide (x.h ≠ h)) ++ [q] := by rw [etk, List.filter_append]; simp [hne]
      refine arith_i64 (by omega) (by omega) ⟨_, ?_, by omega, by omega, rfl, ?_, ?_⟩
      · omega
      · rw [ef]; simp
      · rw [ef]; exact h5
    · have he : q.h = h := by simpa using he
      have ef : (l.take (n + 1).toNat).filter (fun x => decide (x.h ≠ h)) = (l.take n.toNat).filter (fun x => decide (x.h ≠ h)) := by rw [etk, List.filter_append]; simp [he]
      refine arith_i64 (by omega) (by omega) ⟨_, ?_, by omega, by omega, rfl, ?_, ?_⟩
      · omega
      · rw [ef]
      · rw [ef]; exact h3
  · rw [List.take_of_length_le (by omega)] at h3 ⊢
    obtain ⟨i, k', L, hi, hk'⟩ := hsn.get hp
    rw [hk] at hk'
    cases hk'
    have efl : l.filter (fun x => decide (x.h ≠ h)) = l.eraseIdx i := filter_erase hsn.nd hi
    rw [efl] at h3 ⊢
    refine nn_ok <| st_ok (i := 2) (h3.perm (B := blk r (rhA a top p l.length c) T_tenonref11_Heap * (tab 113 1 rpF pp (l.eraseIdx i).length cc (l.eraseIdx i) * (RAr a (mapA zI S) * (tab 113 1 rpF p l.length c l * (robs l * F))))) (by ac_rfl)) (by simp [rhA]) fun w5 h6 => ?_
    have h6 : Sat w₀ (blk r (rhA a top pp (l.eraseIdx i).length cc) T_tenonref11_Heap * (tab 113 1 rpF pp (l.eraseIdx i).length cc (l.eraseIdx i) * (RAr a (mapA zI S) * (tab 113 1 rpF p l.length c l * (robs l * F))))) w5 := h6
    have h6 := h6.drew
    have c1 := cell_blk h6 (i := 1) (v := .pointer (some ⟨a, 0, none⟩)) rfl
    obtain ⟨j, y, q1, q2, q3, q4, q5⟩ := pay_spot hok hp
    refine nn_ok <| ldP_ok c1 <| nn_ok <| ldP_ok c1 <| call_mono (ref_At_ok (h := h) (h6.perm (B := RAr a (mapA zI S) * (blk r (rhA a top pp (l.eraseIdx i).length cc) T_tenonref11_Heap * (tab 113 1 rpF pp (l.eraseIdx i).length cc (l.eraseIdx i) * (tab 113 1 rpF p l.length c l * (robs l * F))))) (by ac_rfl)) hok.mapA) ?_
    rw [find_mapA hok, q1]
    rintro _ w6 ⟨rfl, rfl⟩
    have hym : (mapA zI S).sp[j]? = some ⟨zI y.x, y.g, y.st⟩ := by rw [mapA_get, q2]; rfl
    refine asI_ok ⟨c1, call_mono (ref_Drop_ok (i := j) (h6.perm (B := RAr a (mapA zI S) * (blk r (rhA a top pp (l.eraseIdx i).length cc) T_tenonref11_Heap * (tab 113 1 rpF pp (l.eraseIdx i).length cc (l.eraseIdx i) * (tab 113 1 rpF p l.length c l * (robs l * F))))) (by ac_rfl)) hok.mapA hym) ?_⟩
    rintro _ w7 ⟨rfl, h7⟩
    have ed : dropS (0 : Int) (mapA zI S) j = mapA zI (rmA z0 S h) := by
      rw [rm_eq hok (e := o) q1 q2]
      exact dropS_mapA (f := zI) z0 j
    rw [ed] at h7
    refine ⟨rfl, k, L, rfl, hk, ?_⟩
    have h8 := (h7.perm (B := tab 113 1 rpF p l.length c l * (robH ⟨h, k, o, L⟩ * (blk r (rhA a top pp (l.eraseIdx i).length cc) T_tenonref11_Heap * (RAr a (mapA zI (rmA z0 S h)) * (tab 113 1 rpF pp (l.eraseIdx i).length cc (l.eraseIdx i) * (robs (l.eraseIdx i) * F)))))) (by rw [robs_pull hi]; ac_rfl)).right
    refine (RH.shut (F := robH ⟨h, k, o, L⟩ * F) (p := pp) (c := cc) (m := (l.eraseIdx i).length) (hsn.rmR hok hi) (h8.perm (by ac_rfl)) rfl).perm (by ac_rfl)
end
end Go.Proofs.Ytgchemgnmijpdaa
