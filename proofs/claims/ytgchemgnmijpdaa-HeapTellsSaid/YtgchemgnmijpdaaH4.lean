/- Contracts of layer 11 (heap): all that waits goes; letting go of an object. No conditions. -/
import Derived.Test.YtgchemgnmijpdaaH3
set_option linter.unusedVariables false
set_option linter.unusedSimpArgs false
set_option maxRecDepth 100000
namespace Go.Proofs.Ytgchemgnmijpdaa
open Go.Sp Go.RowKit

/-! ### objects that were taken away -/
abbrev Row := Nat × OM × Loc
def ptF (q : Row) : List Value := [.pointer (some ⟨q.1, 0, none⟩)]
theorem ptF_len (q : Row) : (ptF q).length = 1 := rfl
theorem ptF_one (q : Row) : ∀ u ∈ ptF q, u.oneCell' = true := by simp [ptF, Value.oneCell']
theorem ptrsTy : SliceTy Try.prog T_sl_ptr_heap_object 84 (.pointer none) 1 8 := ⟨by kernel_rfl, by kernel_rfl, rfl, by decide⟩
def rowsH : List Row → HP
  | [] => emp
  | q :: qs => objH q.1 q.2.1 q.2.2 * rowsH qs
theorem rowsH_pull {qs : List Row} {i : Nat} {q : Row} (h : qs[i]? = some q) : rowsH qs = objH q.1 q.2.1 q.2.2 * rowsH (qs.eraseIdx i) := by
  induction qs generalizing i with
  | nil => simp at h
  | cons z qs ih =>
    cases i with
    | zero => simp at h; subst h; rfl
    | succ i =>
      rw [List.eraseIdx_cons_succ, rowsH, rowsH, ih (by simpa using h)]
      ac_rfl
theorem rowsH_snoc {qs : List Row} {q : Row} : rowsH (qs ++ [q]) = objH q.1 q.2.1 q.2.2 * rowsH qs := by
  induction qs with
  | nil => rfl
  | cons y qs ih => rw [List.cons_append, rowsH, rowsH, ih]; ac_rfl
def lnR (q : Row) : List (Int × Int) := q.2.1.ln
theorem lnR_len {top : Int} : ∀ {qs : List Row}, (∀ q ∈ qs, OmOk top q.2.1) → (qs.flatMap lnR).length ≤ 8 * qs.length
  | [], _ => by simp
  | q :: qs, h => by
    have h1 := lnR_len (qs := qs) fun q hq => h q (.tail _ hq)
    have h2 := (h q (.head _)).len
    rw [List.flatMap_cons, List.length_append, List.length_cons]
    unfold lnR at *
    omega
section
variable {w₀ w : World} {F : HP} {b a f : Nat} {top : Int} {P : PM} {S : HS} {wt gn fo : List Int}
theorem FL.gone_app {x : Int} {R : World → Prop} (h : Sat w₀ (FL f b wt gn fo * F) w) (hl : gn.length ≤ 100000) (hk : ∀ w', Sat w₀ (FL f b wt (gn ++ [x]) fo * F) w' → R w') :
    nn (some (⟨f, 0, none⟩ : Addr)) fun a22 => ldS (a22.add 2) w fun p23 l23 c23 => new #[.int .u64 x] 29 w fun k24 w4 => runsS Try.prog (Builtin.append_ #[28, 28] 28 #[.slice p23 l23 c23, .slice (some (⟨k24, 0, none⟩ : Addr)) 1 1]) w4 fun p25 l25 c25 w5 =>
      nn (some (⟨f, 0, none⟩ : Addr)) fun a26 => st (a26.add 2) (.slice p25 l25 c25) w5 fun w6 => R w6 := by
  obtain ⟨pw, cw, pg, cg, pf, cf, h7⟩ := FL.open_ h
  refine nn_ok <| ldS_ok (cell_blk h7 (i := 2) rfl) <| new_ok h7 fun k30 w5 h8 => ?_
  refine tab_app u64sTy fU64_len (by decide) fU64_one (x := x) (h8.perm (B := blk k30 #[.int .u64 x] 29 * (tab T_uint64 1 fU64 pg gn.length cg gn * (blk f #[.pointer (some ⟨b, 0, none⟩), .slice pw wt.length cw, .slice pg gn.length cg, .slice pf fo.length cf] T_heap_fall * (que T_uint64 pw wt.length cw (u64L wt) * (tab T_uint64 1 fU64 pf fo.length cf fo * F))))) (by ac_rfl)) rfl (by simp only [maxLen]; omega) (by omega) fun p' c' w6 h9 => ?_
  refine nn_ok <| st_ok (i := 2) (h9.perm (B := blk f #[.pointer (some ⟨b, 0, none⟩), .slice pw wt.length cw, .slice pg gn.length cg, .slice pf fo.length cf] T_heap_fall * (que T_uint64 pw wt.length cw (u64L wt) * (tab T_uint64 1 fU64 p' (gn.length + 1) c' (gn ++ [x]) * (tab T_uint64 1 fU64 pf fo.length cf fo * F)))) (by ac_rfl)) (by simp) fun w7 h10 => hk w7 ?_
  exact FL.shut (gn := gn ++ [x]) (h10 : Sat w₀ (blk f #[.pointer (some ⟨b, 0, none⟩), .slice pw wt.length cw, .slice p' (gn.length + 1) c', .slice pf fo.length cf] T_heap_fall * _) w7) rfl (by simp) rfl
/-- What is left when all that waits went. -/
def Fell (w₀ : World) (F : HP) (b a : Nat) (top : Int) (S : HS) (wt gn fo : List Int) (mk : Option Addr → Nat → Nat → Option Addr → Nat → Nat → Value) (v : Value) (w' : World) : Prop :=
  ∃ r P' pg cg pf cf, Fall S wt gn fo r ∧ HInv top r.1 ∧ r.1.most = S.most ∧ r.1.cnt ≤ S.cnt ∧ r.2.1.length ≤ 2000 ∧ r.2.2.length ≤ 20000 ∧ v = mk pg r.2.1.length cg pf r.2.2.length cf ∧
    Sat w₀ (tab T_uint64 1 fU64 pg r.2.1.length cg r.2.1 * (tab T_uint64 1 fU64 pf r.2.2.length cf r.2.2 * (HH b a top P' r.1 * F))) w'
def mk2 (p : Option Addr) (l c : Nat) (q : Option Addr) (m d : Nat) : Value := .tuple #[.slice p l c, .slice q m d]
def mk3 (e : Int) (p : Option Addr) (l c : Nat) (q : Option Addr) (m d : Nat) : Value := .tuple #[.slice p l c, .slice q m d, .int .i64 e]
theorem heap_run_ok (hh : Sat w₀ (FL f b wt gn fo * (HH b a top P S * F)) w) (hs : HInv top S) (hw : WtOk S wt) (hb1 : gn.length + S.cnt ≤ 2000) (hb2 : wt.length + fo.length + 9 * S.cnt ≤ 20000) :
    call Try.prog fn_heap_fall_run #[.pointer (some ⟨f, 0, none⟩)] w (Fell w₀ F b a top S wt gn fo mk2) := by
  apply heap_fall_run_call
  unfold heap_fall_run
  refine ⟨fun w m => ∃ S1 P1 wt1 gn1 fo1, m = S1.cnt ∧ HInv top S1 ∧ WtOk S1 wt1 ∧ S1.most = S.most ∧ S1.cnt ≤ S.cnt ∧ gn1.length + S1.cnt ≤ 2000 ∧ wt1.length + fo1.length + 9 * S1.cnt ≤ 20000 ∧ Sat w₀ (FL f b wt1 gn1 fo1 * (HH b a top P1 S1 * F)) w ∧ ∀ r, Fall S1 wt1 gn1 fo1 r → Fall S wt gn fo r,
    ⟨_, S, P, wt, gn, fo, rfl, hs, hw, rfl, Nat.le_refl _, hb1, hb2, hh, fun r h => h⟩, ?_⟩
  rintro u w1 m ⟨S1, P1, wt1, gn1, fo1, rfl, hs1, hw1, hm1, hc1, hg1, hf1, h1, hfall⟩
  obtain ⟨pw, cw, pg, cg, pf, cf, h2⟩ := FL.open_ h1
  refine nn_ok <| ldS_ok (cell_blk h2 (i := 1) rfl) ?_
  cases wt1 with
  | nil =>
    refine br_false (by simp) ?_
    have h3 := h2.drew
    refine nn_ok <| ldS_ok (cell_blk h3 (i := 2) rfl) <| nn_ok <| ldS_ok (cell_blk h3 (i := 3) rfl) ⟨(S1, gn1, fo1), P1, pg, cg, pf, cf, hfall _ .done, hs1, hm1, hc1, by dsimp only; omega, by dsimp only; omega, rfl, ?_⟩
    exact h3.right.right
  | cons h wt2 =>
    rw [List.length_cons] at hf1 h2 ⊢
    refine br_true (by simp) ?_
    have hq : Sat w₀ (que T_uint64 pw (wt2.length + 1) cw (.int .u64 h :: u64L wt2) * _) w1 := h2.perm (B := que T_uint64 pw (wt2.length + 1) cw (.int .u64 h :: u64L wt2) * (blk f #[.pointer (some ⟨b, 0, none⟩), .slice pw (wt2.length + 1) cw, .slice pg gn1.length cg, .slice pf fo1.length cf] T_heap_fall * (tab T_uint64 1 fU64 pg gn1.length cg gn1 * (tab T_uint64 1 fU64 pf fo1.length cf fo1 * (HH b a top P1 S1 * F))))) (by
      show blk f _ _ * (que T_uint64 pw _ cw (.int .u64 h :: u64L wt2) * _) = _
      ac_rfl)
    have hcap := que_cap hq
    have hrd := que_rd hq
    refine nn_ok <| ldS_ok (cell_blk h2 (i := 1) rfl) <| idx_ok hrd (by omega) (by omega) fun a9 ha9 => ldI_ok (n := h) (hrd.get ha9 (j := 0) rfl) <| nn_ok <| ldS_ok (cell_blk h2 (i := 1) rfl) <| slc_ok (by omega) (by omega) (by omega) ?_
    have e1 : (1 : Int).toNat = 1 := rfl
    have e2 : (((wt2.length + 1 : Nat) : Int)).toNat - (1 : Int).toNat = wt2.length := by omega
    rw [e2, e1, Nat.one_mul]
    have h3 := que_tail hq
    refine nn_ok <| st_ok (i := 1) (h3.perm (B := blk f #[.pointer (some ⟨b, 0, none⟩), .slice pw (wt2.length + 1) cw, .slice pg gn1.length cg, .slice pf fo1.length cf] T_heap_fall * (que T_uint64 (if cw = 1 then pw else pw.map (·.add 1)) wt2.length (cw - 1) (u64L wt2) * (tab T_uint64 1 fU64 pg gn1.length cg gn1 * (tab T_uint64 1 fU64 pf fo1.length cf fo1 * (HH b a top P1 S1 * F))))) (by ac_rfl)) (by simp) fun w2 h4 => ?_
    have h5 : Sat w₀ (FL f b wt2 gn1 fo1 * (HH b a top P1 S1 * F)) w2 := FL.shut (wt := wt2) (h4 : Sat w₀ (blk f #[.pointer (some ⟨b, 0, none⟩), .slice (if cw = 1 then pw else pw.map (·.add 1)) wt2.length (cw - 1), .slice pg gn1.length cg, .slice pf fo1.length cf] T_heap_fall * _) w2) rfl rfl rfl
    clear h4 h3 hq h2 h1 hrd
    obtain ⟨o, hp, ho0, hoc⟩ := hw1.all h (.head _)
    obtain ⟨hnd, hlive⟩ := hs1.goers hp ho0
    have hro := hs1.rng h o hp
    have hil := hs1.innlen hp
    have hh5 := h5.perm (B := HH b a top P1 S1 * (FL f b wt2 gn1 fo1 * F)) (by ac_rfl)
    refine nn_ok <| ldP_ok (FL.c0 h5) <| nn_ok <| ldP_ok (HH.c1 hh5) <| call_mono (hdrop_ok hh5 hs1.ok hp) ?_
    rintro _ w3 ⟨k, L, rfl, _, h6⟩
    refine ⟨_, _, rfl, FL.gone_app (x := h) (h6.perm (B := FL f b wt2 gn1 fo1 * (objH k o L * (HH b a top (updP P1 h none) (rmA z0 S1 h) * F))) (by ac_rfl)) (by omega) fun w6 h7 => new_ok h7 fun k27 w7 h8 => ?_⟩
    have h9 : Sat w₀ (tab 84 1 ptF (some ⟨k27, 0, none⟩) 1 1 [(k, o, L)] * (FL f b wt2 (gn1 ++ [h]) fo1 * (objH k o L * (HH b a top (updP P1 h none) (rmA z0 S1 h) * F)))) w7 := h8.own_full (t := 84) (sz := 1) (n := 1) rfl (by decide)
    have hobj : ∀ {w : World} {A B : HP}, Sat w₀ (A * (B * (objH k o L * (rowsH [] * F)))) w → True := fun _ => trivial
    have cin : ∀ {w : World} {A B X : HP} , Sat w₀ (A * (B * (objH k o L * X))) w → w.cell? ((⟨k, 0, none⟩ : Addr).add 4) = some (.slice L.pi o.inn.length L.ci) := fun h => obj_cell h.right.right (i := 4) rfl
    refine nn_ok <| ldS_ok (cin h9) ?_
    have S1h : rmL S1 [h] = rmA z0 S1 h := rfl
    -- the inners go
    refine ⟨fun p l c n w m => 0 ≤ n ∧ n ≤ o.inn.length ∧ m = o.inn.length - n.toNat ∧ ∃ rest P2, l = ((k, o, L) :: rest).length ∧ rest.length = n.toNat ∧ rest.flatMap lnR = (o.inn.take n.toNat).flatMap (lnOf S1) ∧ (∀ q ∈ rest, OmOk top q.2.1) ∧
      Sat w₀ (tab 84 1 ptF p l c ((k, o, L) :: rest) * (FL f b wt2 (gn1 ++ h :: o.inn.take n.toNat) fo1 * (objH k o L * (rowsH rest * (HH b a top P2 (rmL S1 (h :: o.inn.take n.toNat)) * F))))) w,
      ⟨_, by omega, by omega, rfl, [], _, rfl, rfl, rfl, (fun q hq => by cases hq), h9.with_emp.perm (by
        show emp * (tab 84 1 ptF _ 1 1 [(k, o, L)] * (FL f b wt2 (gn1 ++ [h]) fo1 * (objH k o L * (HH b a top (updP P1 h none) (rmA z0 S1 h) * F)))) = tab 84 1 ptF _ 1 1 [(k, o, L)] * (FL f b wt2 (gn1 ++ [h]) fo1 * (objH k o L * (emp * (HH b a top (updP P1 h none) (rmA z0 S1 h) * F))))
        ac_rfl)⟩, ?_⟩
    rintro u p l c n w8 m ⟨n0, nl, rfl, rest, P2, rfl, hrl, hrf, hrok, h10⟩
    refine br_dec (fun hlt => ?_) (fun hge => ?_)
    · have hi : n.toNat < o.inn.length := by omega
      obtain ⟨i, hii⟩ : ∃ i, o.inn[n.toNat]? = some i := ⟨_, List.getElem?_eq_getElem hi⟩
      have himem : i ∈ o.inn := List.mem_of_getElem? hii
      have htab : Sat w₀ (tab T_uint64 1 fU64 L.pi o.inn.length L.ci o.inn) w8 := by
        have := h10.right.right.left
        exact (show Sat w₀ (blk k (oA o L) T_heap_object * (tab T_api_Link 2 lnF L.pl o.ln.length L.cl o.ln * tab T_uint64 1 fU64 L.pi o.inn.length L.ci o.inn)) w8 from this).right.right
      obtain ⟨x, hx, hxo⟩ := hs1.inn h o hp i himem
      have e3 : o.inn = o.inn.take n.toNat ++ i :: o.inn.drop (n.toNat + 1) := by
        conv => lhs; rw [← List.take_append_drop n.toNat o.inn, List.drop_eq_getElem_cons hi]
        rw [List.getElem?_eq_getElem hi] at hii
        rw [Option.some.inj hii]
      have hnd2 := hnd
      rw [e3, ← List.cons_append] at hnd2
      have hnd3 := List.nodup_append.1 hnd2
      have hni : i ∉ h :: o.inn.take n.toNat := fun hm => hnd3.2.2 i hm i (.head _) rfl
      obtain ⟨g1, g2, g3, g4⟩ := rmL_ok (h :: o.inn.take n.toNat) hs1.toHBase hnd3.1 fun y hy => hlive y (by
        rcases List.mem_cons.1 hy with rfl | hy
        · exact .head _
        · exact .tail _ (List.mem_of_mem_take hy))
      have hxi : pay (rmL S1 (h :: o.inn.take n.toNat)) i = some x := by rw [g4, if_neg hni]; exact hx
      have htl : (o.inn.take n.toNat).length = n.toNat := by rw [List.length_take]; omega
      have hh10 := h10.perm (B := HH b a top P2 (rmL S1 (h :: o.inn.take n.toNat)) * (tab 84 1 ptF p ((k, o, L) :: rest).length c ((k, o, L) :: rest) * (FL f b wt2 (gn1 ++ h :: o.inn.take n.toNat) fo1 * (objH k o L * (rowsH rest * F))))) (by ac_rfl)
      refine tab_idx fU64_len htab (by decide) n0 hii fun g hg => ldI_ok (n := i) (by have := tab_cell fU64_len htab hg hii (j := 0) (by decide) rfl; rwa [Sp.add_zero] at this) <| nn_ok <| ldP_ok (FL.c0 h10.right) <| nn_ok <| ldP_ok (HH.c1 hh10) <| call_mono (hdrop_ok hh10 g1.ok hxi) ?_
      rintro _ w9 ⟨k2, L2, rfl, _, h11⟩
      refine ⟨_, _, rfl, FL.gone_app (x := i) (h11.perm (B := FL f b wt2 (gn1 ++ h :: o.inn.take n.toNat) fo1 * (objH k2 x L2 * (HH b a top (updP P2 i none) (rmA z0 (rmL S1 (h :: o.inn.take n.toNat)) i) * (tab 84 1 ptF p ((k, o, L) :: rest).length c ((k, o, L) :: rest) * (objH k o L * (rowsH rest * F)))))) (by ac_rfl)) (by rw [List.length_append, List.length_cons, htl]; omega) fun w12 h12 => new_ok h12 fun k50 w13 h13 => ?_⟩
      refine tab_app ptrsTy ptF_len (by decide) ptF_one (x := (k2, x, L2)) (h13.perm (B := blk k50 #[.pointer (some ⟨k2, 0, none⟩)] 84 * (tab 84 1 ptF p ((k, o, L) :: rest).length c ((k, o, L) :: rest) * (FL f b wt2 (gn1 ++ h :: o.inn.take n.toNat ++ [i]) fo1 * (objH k2 x L2 * (HH b a top (updP P2 i none) (rmA z0 (rmL S1 (h :: o.inn.take n.toNat)) i) * (objH k o L * (rowsH rest * F))))))) (by ac_rfl)) rfl (by rw [List.length_cons]; simp only [maxLen]; omega) (by rw [List.length_cons]; omega) fun p' c' w14 h14 => ?_
      have etk : o.inn.take (n + 1).toNat = o.inn.take n.toNat ++ [i] := by rw [show (n + 1).toNat = n.toNat + 1 by omega, List.take_add_one, hii]; rfl
      refine arith_i64 (by omega) (by omega) ⟨_, ?_, by omega, by omega, rfl, rest ++ [(k2, x, L2)], updP P2 i none, by simp, by simp; omega, ?_, ?_, ?_⟩
      · omega
      · rw [etk, List.flatMap_append, List.flatMap_append, hrf]
        congr 1
        simp [lnR, lnOf, hx]
      · intro q hq
        rcases List.mem_append.1 hq with hq | hq
        · exact hrok q hq
        · rw [List.mem_singleton] at hq; subst hq; exact hs1.rng i x hx
      · have erm : rmL S1 (h :: (o.inn.take n.toNat ++ [i])) = rmA z0 (rmL S1 (h :: o.inn.take n.toNat)) i := rmL_snoc S1 (h :: o.inn.take n.toNat) i
        rw [etk, rowsH_snoc, erm]
        refine h14.perm ?_
        have eg : gn1 ++ h :: o.inn.take n.toNat ++ [i] = gn1 ++ (h :: o.inn.take n.toNat ++ [i]) := by rw [List.append_assoc]
        rw [eg]
        show tab 84 1 ptF p' (((k, o, L) :: rest).length + 1) c' ((k, o, L) :: rest ++ [(k2, x, L2)]) * _ = _
        ac_rfl
    -- the links are let go
    · rw [List.take_of_length_le (by omega)] at h10 hrf
      obtain ⟨rows, hrows⟩ : ∃ rows, rows = (k, o, L) :: rest := ⟨_, rfl⟩
      obtain ⟨S2, hS2⟩ : ∃ S2, S2 = rmL S1 (h :: o.inn) := ⟨_, rfl⟩
      obtain ⟨gn2, hgn2⟩ : ∃ gn2, gn2 = gn1 ++ h :: o.inn := ⟨_, rfl⟩
      have hs2 : HInv top S2 := hS2 ▸ hs1.gone hp ho0
      have hw2 : WtOk S2 wt2 := hS2 ▸ (WtOk.gone hs1 hw1 hp).2
      obtain ⟨_, hcnt2, hmost2, _⟩ := rmL_ok (h :: o.inn) hs1.toHBase hnd hlive
      rw [← hS2] at hcnt2 hmost2
      rw [List.length_cons] at hcnt2
      have hrowlen : rows.length = o.inn.length + 1 := by rw [hrows, List.length_cons, hrl]; omega
      have hrowok : ∀ q ∈ rows, OmOk top q.2.1 := fun q hq => by
        rw [hrows] at hq
        rcases List.mem_cons.1 hq with rfl | hq
        · exact hro
        · exact hrok q hq
      have hlinks : rows.flatMap lnR = o.ln ++ o.inn.flatMap (lnOf S1) := by rw [hrows, List.flatMap_cons, hrf]; rfl
      have hlen8 := lnR_len hrowok
      have h11 : Sat w₀ (tab 84 1 ptF p rows.length c rows * (rowsH rows * (FL f b wt2 gn2 fo1 * (HH b a top P2 S2 * F)))) w8 := h10.perm (by rw [hrows, hS2, hgn2, rowsH]; ac_rfl)
      clear h10
      rw [show ((k, o, L) :: rest).length = rows.length by rw [hrows]]
      refine ⟨fun n w m => 0 ≤ n ∧ n ≤ rows.length ∧ m = rows.length - n.toNat ∧ Sat w₀ (tab 84 1 ptF p rows.length c rows * (rowsH rows * (FL f b (lets (S2, wt2, fo1) ((rows.take n.toNat).flatMap lnR)).2.1 gn2 (lets (S2, wt2, fo1) ((rows.take n.toNat).flatMap lnR)).2.2 * (HH b a top P2 (lets (S2, wt2, fo1) ((rows.take n.toNat).flatMap lnR)).1 * F)))) w,
        ⟨_, by omega, by omega, rfl, h11⟩, ?_⟩
      rintro u n w15 m ⟨n0, nl, rfl, h12⟩
      refine br_dec (fun hlt => ?_) (fun hge => ?_)
      · have hi : n.toNat < rows.length := by omega
        obtain ⟨q, hq⟩ : ∃ q, rows[n.toNat]? = some q := ⟨_, List.getElem?_eq_getElem hi⟩
        have hqok := hrowok q (List.mem_of_getElem? hq)
        obtain ⟨T, hT⟩ : ∃ T, T = lets (S2, wt2, fo1) ((rows.take n.toNat).flatMap lnR) := ⟨_, rfl⟩
        rw [← hT] at h12
        have h13 : Sat w₀ (objH q.1 q.2.1 q.2.2 * (tab 84 1 ptF p rows.length c rows * (rowsH (rows.eraseIdx n.toNat) * (FL f b T.2.1 gn2 T.2.2 * (HH b a top P2 T.1 * F))))) w15 := h12.perm (by rw [rowsH_pull hq]; ac_rfl)
        refine tab_idx ptF_len h12.left (by decide) n0 hq fun g hg => ldP_ok (n := some ⟨q.1, 0, none⟩) (by have := tab_cell ptF_len h12.left hg hq (j := 0) (by decide) rfl; rwa [Sp.add_zero] at this) <| nn_ok <| ldS_ok (obj_cell h13 (i := 3) rfl) ?_
        have etk : (rows.take (n.toNat + 1)).flatMap lnR = (rows.take n.toNat).flatMap lnR ++ q.2.1.ln := by
          rw [List.take_add_one, hq, List.flatMap_append]
          simp [lnR]
        refine ⟨fun j w m => 0 ≤ j ∧ j ≤ q.2.1.ln.length ∧ m = q.2.1.ln.length - j.toNat ∧ Sat w₀ (objH q.1 q.2.1 q.2.2 * (tab 84 1 ptF p rows.length c rows * (rowsH (rows.eraseIdx n.toNat) * (FL f b (lets T (q.2.1.ln.take j.toNat)).2.1 gn2 (lets T (q.2.1.ln.take j.toNat)).2.2 * (HH b a top P2 (lets T (q.2.1.ln.take j.toNat)).1 * F))))) w, ⟨_, by omega, by omega, rfl, h13⟩, ?_⟩
        rintro u j w16 m ⟨j0, jl, rfl, h14⟩
        refine br_dec (fun hjlt => ?_) (fun hjge => ?_)
        · have hj : j.toNat < q.2.1.ln.length := by omega
          obtain ⟨x, hx⟩ : ∃ x, q.2.1.ln[j.toNat]? = some x := ⟨_, List.getElem?_eq_getElem hj⟩
          have hlt2 : Sat w₀ (tab T_api_Link 2 lnF q.2.2.pl q.2.1.ln.length q.2.2.cl q.2.1.ln) w16 :=
            (show Sat w₀ (blk q.1 (oA q.2.1 q.2.2) T_heap_object * (tab T_api_Link 2 lnF q.2.2.pl q.2.1.ln.length q.2.2.cl q.2.1.ln * tab T_uint64 1 fU64 q.2.2.pi q.2.1.inn.length q.2.2.ci q.2.1.inn)) w16 from h14.left).right.left
          have hsofar : lets T (q.2.1.ln.take j.toNat) = lets (S2, wt2, fo1) ((rows.take n.toNat).flatMap lnR ++ q.2.1.ln.take j.toNat) := by rw [hT, ← lets_append]
          have hU := lets_inv (fo := fo1) ((rows.take n.toNat).flatMap lnR ++ q.2.1.ln.take j.toNat) hs2 hw2
          rw [← hsofar] at hU
          have hsl : ((rows.take n.toNat).flatMap lnR).length ≤ 8 * rows.length := by
            have := lnR_len (qs := rows.take n.toNat) fun q hq => hrowok q (List.mem_of_mem_take hq)
            rw [List.length_take] at this
            omega
          have hsl2 : (q.2.1.ln.take j.toNat).length ≤ 8 := by rw [List.length_take]; have := hqok.len; omega
          obtain ⟨U, hUe⟩ : ∃ U, U = lets T (q.2.1.ln.take j.toNat) := ⟨_, rfl⟩
          rw [← hUe] at hU h14
          have hUl := hU.2.2.2.2
          rw [List.length_append] at hUl
          refine tab_idx lnF_len hlt2 (by decide) j0 hx fun g hg => tab_ldA0 lnF_len hlt2 hg hx <| new_ok h14 fun k70 w17 h15 => stA_ok h15 rfl rfl (lnA_one x) fun w18 h16 => ?_
          have h16 : Sat w₀ (blk k70 (lnA x) 35 * (objH q.1 q.2.1 q.2.2 * (tab 84 1 ptF p rows.length c rows * (rowsH (rows.eraseIdx n.toNat) * (FL f b U.2.1 gn2 U.2.2 * (HH b a top P2 U.1 * F)))))) w18 := h16
          refine ldA_blk0 h16 rfl <| call_mono (heap_let_ok (x := x) (h16.perm (B := FL f b U.2.1 gn2 U.2.2 * (HH b a top P2 U.1 * (objH q.1 q.2.1 q.2.2 * (tab 84 1 ptF p rows.length c rows * (rowsH (rows.eraseIdx n.toNat) * (blk k70 (lnA x) 35 * F)))))) (by ac_rfl)) hU.1 (hqok.ln x (List.mem_of_getElem? hx)) (by omega) (by omega)) ?_
          rintro _ w19 ⟨rfl, h17⟩
          have esn : lets T (q.2.1.ln.take (j + 1).toNat) = letM U.1 U.2.1 U.2.2 x := by rw [show (j + 1).toNat = j.toNat + 1 by omega, List.take_add_one, hx, hUe]; exact lets_snoc _ _ _
          have := hqok.len
          refine ⟨rfl, arith_i64 (by omega) (by omega) ⟨_, ?_, by omega, by omega, rfl, ?_⟩⟩
          · omega
          · rw [esn]
            exact (h17.perm (B := blk k70 (lnA x) 35 * (objH q.1 q.2.1 q.2.2 * (tab 84 1 ptF p rows.length c rows * (rowsH (rows.eraseIdx n.toNat) * (FL f b (letM U.1 U.2.1 U.2.2 x).2.1 gn2 (letM U.1 U.2.1 U.2.2 x).2.2 * (HH b a top P2 (letM U.1 U.2.1 U.2.2 x).1 * F)))))) (by ac_rfl)).right
        · rw [List.take_of_length_le (by omega)] at h14
          have e5 : lets T q.2.1.ln = lets (S2, wt2, fo1) ((rows.take (n + 1).toNat).flatMap lnR) := by rw [show (n + 1).toNat = n.toNat + 1 by omega, etk, lets_append, hT]
          rw [e5] at h14
          refine arith_i64 (by omega) (by omega) ⟨_, ?_, by omega, by omega, rfl, h14.perm (by rw [rowsH_pull hq]; ac_rfl)⟩
          omega
      · rw [List.take_of_length_le (by omega)] at h12
        have hU := lets_inv (fo := fo1) (rows.flatMap lnR) hs2 hw2
        obtain ⟨U, hUe⟩ : ∃ U, U = lets (S2, wt2, fo1) (rows.flatMap lnR) := ⟨_, rfl⟩
        rw [← hUe] at hU h12
        obtain ⟨u1, u2, u3, u4, u5⟩ := hU
        refine ⟨U.1.cnt, ?_, U.1, P2, U.2.1, gn2, U.2.2, rfl, u1, u2, by rw [u4, hmost2]; exact hm1, by omega, ?_, by omega, h12.right.right, fun r hr => hfall r (.step hp ?_ (hgn2 ▸ hr))⟩
        · omega
        · rw [hgn2, List.length_append, List.length_cons]; omega
        · rw [hUe, hS2, hlinks]
theorem heap_Down_ok {h : Int} (hh : Sat w₀ (HH b a top P S * F) w) (hs : HInv top S) (h0 : 0 ≤ h) (h1 : h ≤ 18446744073709551615) :
    call Try.prog fn_heap_Heap_Down #[.pointer (some ⟨b, 0, none⟩), .int .u64 h] w fun v w' => (pay S h = none ∧ v = mk3 2 none 0 0 none 0 0 ∧ Sat w₀ (HH b a top P S * F) w') ∨
      ((∃ o, pay S h = some o) ∧ Fell w₀ F b a top (letM S [] [] (1, h)).1 (letM S [] [] (1, h)).2.1 [] (letM S [] [] (1, h)).2.2 (mk3 0) v w') := by
  apply heap_Heap_Down_call
  unfold heap_Heap_Down
  refine call_mono (hfind_ok hh hs.ok h0 h1) ?_
  rintro _ w1 ⟨rfl, ⟨hp, rfl⟩ | ⟨k, o, hp, hk, rfl⟩⟩
  · exact ⟨_, _, rfl, br_true rfl (.inl ⟨hp, rfl, hh⟩)⟩
  refine ⟨_, _, rfl, br_false rfl <| new_ok hh fun k4 w2 h2 => ?_⟩
  refine call_mono (heap_let_ok (x := (1, h)) (FL.start h2) hs ⟨(show -9223372036854775808 ≤ (1 : Int) ∧ (1 : Int) ≤ 9223372036854775807 by decide), h0, h1⟩ (by simp) (by simp)) ?_
  rintro _ w3 ⟨rfl, h3⟩
  obtain ⟨q1, q2, q3, q4, q5⟩ := letM_inv (fo := []) (1, h) hs WtOk.nil
  have hc := hs.toHBase.cnt
  simp only [List.length_nil] at q5
  refine ⟨rfl, call_mono (heap_run_ok h3 q1 q2 (by simp; omega) (by omega)) ?_⟩
  rintro _ w4 ⟨r, P', pg, cg, pf, cf, g1, g2, g3, g4, g5, g6, rfl, h4⟩
  exact ⟨_, _, _, _, _, _, rfl, .inr ⟨⟨o, hp⟩, r, P', pg, cg, pf, cf, g1, g2, g3, g4, g5, g6, rfl, h4⟩⟩
end
end Go.Proofs.Ytgchemgnmijpdaa
