/- HeapPlays: both are alike; the walk. No conditions. -/
import Derived.Test.YtgchemgnmijpdaaHP2
import Derived.Laws.StructEq
import Derived.ChangeKeysEq
set_option linter.unusedVariables false
set_option linter.unusedSimpArgs false
set_option maxRecDepth 100000
namespace Go.Proofs.Ytgchemgnmijpdaa
open Go.Sp Go.RowKit

/-! ### equality of links -/
theorem eqF_cons {d : Nat} {xs ys : Array Value} {f : Field} {fs : List Field} {w : World} {a b : Value} {r : Bool} (hn : f.name ≠ "_") (ha : (part f.type xs f.offset).run Try.prog w = .ok a w) (hb : (part f.type ys f.offset).run Try.prog w = .ok b w) (he : (Op.equalIn d f.type a b).run Try.prog w = .ok r w) :
    (Op.eqFields d xs ys (f :: fs)).run Try.prog w = if r = true then (Op.eqFields d xs ys fs).run Try.prog w else .ok false w := by
  simp only [Op.eqFields, if_pos hn, Sem.run_bind, ha, hb, he, Result.andThen_ok]
  cases r <;> simp
theorem eq_link (x y : Int × Int) (w : World) : (Op.equal T_api_Link (.agg (lnF x).toArray) (.agg (lnF y).toArray)).run Try.prog w = .ok (decide (x = y)) w := by
  obtain ⟨d, hd⟩ : ∃ d, Op.maxDepth = d + 1 + 1 + 1 := ⟨9997, by kernel_rfl⟩
  have e : Op.equal T_api_Link (.agg (lnF x).toArray) (.agg (lnF y).toArray) = Op.equalIn (d + 1 + 1 + 1) T_api_Link (.agg (lnF x).toArray) (.agg (lnF y).toArray) := by
    unfold Op.equal
    rw [hd]
  have hp : Try.prog.stoodInHeld T_api_Link = false := by kernel_rfl
  have hu := Try.underlying35
  have hfo' : ∀ {fs}, Try.prog.underlying T_api_Link = some (.struct fs) → Try.prog.fieldsOf T_api_Link = fs := by
    intro fs h
    unfold Program.fieldsOf
    rw [h]
  have hfo := hfo' hu
  rw [e, run_equalIn_struct w (d + 1 + 1) T_api_Link _ _ (by rw [hfo]; exact hu) hp, hfo]
  have pI : ∀ (t : TypeId) (k : IntKind) (hu : Try.prog.underlying t = some (.int k)) (z : Int × Int) (i : Nat) (n : Int), (lnF z).toArray[i]? = some (.int k n) → (part t (lnF z).toArray i).run Try.prog w = .ok (.int k n) w := by
    intro t k hu z i n hz
    exact run_part hu (by unfold shapeOf; rw [hu]; simp) hz w
  have hI := Try.underlying3
  have hU := Try.underlying29
  have c0 : ∀ fs, (Op.eqFields (d + 1 + 1) (lnF x).toArray (lnF y).toArray (⟨"Kind", T_int, 0, false, "", "", 0⟩ :: fs)).run Try.prog w = _ := fun fs => eqF_cons (by decide) (pI _ _ hI x 0 x.1 rfl) (pI _ _ hI y 0 y.1 rfl) (run_equalIn_int w (d + 1) _ .i64 .i64 _ _ hI)
  have c1 : ∀ fs, (Op.eqFields (d + 1 + 1) (lnF x).toArray (lnF y).toArray (⟨"H", T_uint64, 1, false, "", "", 8⟩ :: fs)).run Try.prog w = _ := fun fs => eqF_cons (by decide) (pI _ _ hU x 1 x.2 rfl) (pI _ _ hU y 1 y.2 rfl) (run_equalIn_int w (d + 1) _ .u64 .u64 _ _ hU)
  refine (c0 _).trans ?_
  rw [c1]
  obtain ⟨x1, x2⟩ := x
  obtain ⟨y1, y2⟩ := y
  have c2 : (Op.eqFields (d + 1 + 1) (lnF (x1, x2)).toArray (lnF (y1, y2)).toArray []).run Try.prog w = .ok true w := by simp [Op.eqFields]
  rw [c2]
  dsimp only
  by_cases h1 : x1 = y1
  · by_cases h2 : x2 = y2
    · simp [h1, h2]
    · simp [h1, h2]
  · simp [h1]
theorem still_link {x y : Int × Int} {K : Bool → Prop} (hk : K (decide (x = y))) : still Try.prog (Op.equal T_api_Link (.agg (lnF x).toArray) (.agg (lnF y).toArray)) K := ⟨_, fun w => eq_link x y w, hk⟩
section
variable {w₀ w : World} {F G : HP} {b hb a rb r : Nat} {top : Int} {P Q : PM} {S : HS} {gs : List Int}
theorem ref_All2_ok (h : Sat w₀ (RH rb r top Q S * F) w) (hs : AOk S) :
    call Try.prog fn_tenonref02_Arena_All #[.pointer (some ⟨r, 0, none⟩)] w fun v w' => ∃ p c, v = .slice p (allFrom 0 S.sp).length c ∧ Sat w₀ (tab T_uint64 1 fU64 p (allFrom 0 S.sp).length c (allFrom 0 S.sp) * (RH rb r top Q S * F)) w' := by
  obtain ⟨l, p, c, hsn, h2⟩ := RH.open_ h
  refine call_mono (ref_All_ok (h2.perm (B := RAr r (mapA zI S) * (blk rb (rhA r top p l.length c) T_tenonref11_Heap * (tab 113 1 rpF p l.length c l * (robs l * F)))) (by ac_rfl)) hs.mapA) ?_
  rintro _ w1 ⟨p1, l1, c1, rfl, e, h3⟩
  rw [allFrom_mapA] at h3
  have e1 : l1 = (allFrom 0 S.sp).length := by rw [all_cnt hs]; exact e
  subst e1
  exact ⟨p1, c1, rfl, (RH.shut (F := tab T_uint64 1 fU64 p1 (allFrom 0 S.sp).length c1 (allFrom 0 S.sp) * F) hsn (h3.perm (by ac_rfl)) rfl).perm (by ac_rfl)⟩
theorem Pair_alike_ok (h : Sat w₀ (HPr b hb a rb r top S gs * F) w) (hs : HInv top S) (hg : GOk gs) (hl : gs.length ≤ 1000) :
    call Try.prog fn_tenonlaw11_Pair_alike #[.pointer (some ⟨b, 0, none⟩)] w fun v w' => v = .bool true ∧ Sat w₀ (HPr b hb a rb r top S gs * F) w' := by
  apply tenonlaw11_Pair_alike_call
  unfold tenonlaw11_Pair_alike
  obtain ⟨P, Q, p, c, h1⟩ := HPr.open_ h.drew
  have hcc := hs.toHBase.cnt
  have hm := hs.most
  have hac := all_cnt hs.ok
  have h1r := h1.right.right.right
  refine nn_ok <| ldP_ok (cell_blk h1 (i := 0) rfl) <| nn_ok <| ldP_ok (cell_blk h1 (i := 1) rfl) <| nn_ok <| ldP_ok (RH.c1 h1r) <| call_mono (heap_all_ok (most := 999) (h1.perm (B := HH hb a top P S * (blk b (prA hb rb p gs.length c) T_tenonlaw11_Pair * (tab T_uint64 1 fU64 p gs.length c gs * (RH rb r top Q S * F)))) (by ac_rfl)) hs.ok (by omega)) ?_
  rintro _ w1 ⟨p8, m, c8, rfl, hmm, h2⟩
  have hml : m = (allFrom 0 S.sp).length := by rw [hmm]; omega
  subst hml
  rw [List.take_length] at h2
  refine asS_ok ⟨RH.c1 h2.right.right.right.right, cell_blk h2.right.right (i := 1) rfl, call_mono (ref_All2_ok (h2.perm (B := RH rb r top Q S * (tab T_uint64 1 fU64 p8 (allFrom 0 S.sp).length c8 (allFrom 0 S.sp) * (blk b (prA hb rb p gs.length c) T_tenonlaw11_Pair * (tab T_uint64 1 fU64 p gs.length c gs * (HH hb a top P S * F))))) (by ac_rfl)) hs.ok) ?_⟩
  rintro _ w2 ⟨p10, c10, rfl, h3⟩
  refine asS_ok <| call_reads (SameLongs_ok (xs := allFrom 0 S.sp) (ys := allFrom 0 S.sp) h3.right.right.left.rd h3.left.rd (by omega)) fun w3 hsm => asB_ok <| br_false (by simp) ?_
  have h4 := h3.same hsm
  have h5 : Sat w₀ (blk b (prA hb rb p gs.length c) T_tenonlaw11_Pair * (tab T_uint64 1 fU64 p gs.length c gs * (HH hb a top P S * (RH rb r top Q S * F)))) w3 :=
    (h4.perm (B := tab T_uint64 1 fU64 p10 (allFrom 0 S.sp).length c10 (allFrom 0 S.sp) * (tab T_uint64 1 fU64 p8 (allFrom 0 S.sp).length c8 (allFrom 0 S.sp) * (blk b (prA hb rb p gs.length c) T_tenonlaw11_Pair * (tab T_uint64 1 fU64 p gs.length c gs * (HH hb a top P S * (RH rb r top Q S * F)))))) (by ac_rfl)).right.right
  clear h1 h1r h2 h3 h4
  refine ⟨fun n w m => 0 ≤ n ∧ n ≤ gs.length ∧ m = gs.length - n.toNat ∧ Sat w₀ (blk b (prA hb rb p gs.length c) T_tenonlaw11_Pair * (tab T_uint64 1 fU64 p gs.length c gs * (HH hb a top P S * (RH rb r top Q S * F)))) w, ⟨_, by decide, by omega, rfl, h5⟩, ?_⟩
  rintro u n w4 m ⟨n0, nl, rfl, h6⟩
  refine nn_ok <| ldS_ok (cell_blk h6 (i := 2) rfl) <| br_dec (fun hlt => ?_) (fun hge => ⟨rfl, HPr.shut h6 rfl⟩)
  have hi : n.toNat < gs.length := by omega
  obtain ⟨x, hx⟩ : ∃ x, gs[n.toNat]? = some x := ⟨_, List.getElem?_eq_getElem hi⟩
  obtain ⟨x0, x1⟩ := hg x (List.mem_of_getElem? hx)
  have next : ∀ {w}, Sat w₀ (blk b (prA hb rb p gs.length c) T_tenonlaw11_Pair * (tab T_uint64 1 fU64 p gs.length c gs * (HH hb a top P S * (RH rb r top Q S * F)))) w →
      arith .i64 (n + 1) fun n46 => ∃ m47, m47 < gs.length - n.toNat ∧ (fun (n : Int) w m => 0 ≤ n ∧ n ≤ gs.length ∧ m = gs.length - n.toNat ∧ Sat w₀ (blk b (prA hb rb p gs.length c) T_tenonlaw11_Pair * (tab T_uint64 1 fU64 p gs.length c gs * (HH hb a top P S * (RH rb r top Q S * F)))) w) n46 w m47 := fun h =>
    arith_i64 (by omega) (by omega) ⟨_, by omega, by omega, by omega, rfl, h⟩
  have hhp : ∀ {w}, Sat w₀ (blk b (prA hb rb p gs.length c) T_tenonlaw11_Pair * (tab T_uint64 1 fU64 p gs.length c gs * (HH hb a top P S * (RH rb r top Q S * F)))) w → Sat w₀ (HH hb a top P S * (blk b (prA hb rb p gs.length c) T_tenonlaw11_Pair * (tab T_uint64 1 fU64 p gs.length c gs * (RH rb r top Q S * F)))) w := fun h => h.perm (by ac_rfl)
  have hrp : ∀ {w}, Sat w₀ (blk b (prA hb rb p gs.length c) T_tenonlaw11_Pair * (tab T_uint64 1 fU64 p gs.length c gs * (HH hb a top P S * (RH rb r top Q S * F)))) w → Sat w₀ (RH rb r top Q S * (blk b (prA hb rb p gs.length c) T_tenonlaw11_Pair * (tab T_uint64 1 fU64 p gs.length c gs * (HH hb a top P S * F)))) w := fun h => h.perm (by ac_rfl)
  refine nn_ok <| ldS_ok (cell_blk h6 (i := 2) rfl) <| tab_idx fU64_len h6.right.left (by decide) n0 hx fun g hg2 => ldI_ok (n := x) (by have := tab_cell fU64_len (j := 0) h6.right.left hg2 hx (by decide) rfl; rwa [Sp.add_zero] at this) <| nn_ok <| ldP_ok (cell_blk h6 (i := 1) rfl) <| call_mono (rh_Find_ok (h := x) (hrp h6) hs.ok) ?_
  rintro vf w5 ⟨rfl, hf⟩
  have hvf : ∃ pf, vf = .pointer pf ∧ ((pay S x = none ∧ pf = none) ∨ ∃ k o, pay S x = some o ∧ Q x = some k ∧ pf = some ⟨k, 0, none⟩) := by
    rcases hf with ⟨h1, rfl⟩ | ⟨k, o, h1, h2, rfl⟩
    · exact ⟨none, rfl, .inl ⟨h1, rfl⟩⟩
    · exact ⟨_, rfl, .inr ⟨k, o, h1, h2, rfl⟩⟩
  clear hf
  obtain ⟨pf, rfl, hf⟩ := hvf
  refine asP_ok <| nn_ok <| ldP_ok (cell_blk h6 (i := 0) rfl) <| call_mono (heap_Value_ok (hhp h6) hs.ok x0 x1) ?_
  rintro _ w6 ⟨rfl, rfl⟩
  refine ⟨_, _, rfl, nn_ok <| ldP_ok (cell_blk h6 (i := 0) rfl) <| call_mono (heap_Whole_ok (hhp h6) hs.ok x0 x1) ?_⟩
  rintro _ w7 ⟨rfl, rfl⟩
  have hov : ∃ n36 n37, optV (whole S x) = .tuple #[.int .u64 n36, .int .i64 n37] ∧ ((whole S x = none ∧ n36 = 0 ∧ n37 = 2) ∨ ∃ y, whole S x = some y ∧ n36 = y ∧ n37 = 0) := by
    cases whole S x with
    | none => exact ⟨_, _, rfl, .inl ⟨rfl, rfl, rfl⟩⟩
    | some y => exact ⟨_, _, rfl, .inr ⟨y, rfl, rfl, rfl⟩⟩
  obtain ⟨n36, n37, hov, hwv⟩ := hov
  refine ⟨n36, n37, hov, nn_ok <| ldP_ok (cell_blk h6 (i := 0) rfl) <| call_mono (heap_links_ok (h := x) (most := 99) (hhp h6) hs.toHBase x0 x1) ?_⟩
  rintro _ w8 ⟨p41, m41, c41, rfl, hm41, h8⟩
  rcases hf with ⟨hp, rfl⟩ | ⟨k, o, hp, hk, rfl⟩
  · -- none
    rw [whole_none hp] at hwv
    rcases hwv with ⟨_, rfl, rfl⟩ | ⟨y, hy, _⟩
    · have ev : vaM S x = (0, 2) := by rw [vaM, hp]
      have el : lnOf S x = [] := by rw [lnOf, hp]
      rw [el] at hm41
      have hm0 : m41 = 0 := by simpa using hm41
      subst hm0
      rw [ev]
      have h9 : Sat w₀ (blk b (prA hb rb p gs.length c) T_tenonlaw11_Pair * (tab T_uint64 1 fU64 p gs.length c gs * (HH hb a top P S * (RH rb r top Q S * F)))) w8 := h8.right.perm (by ac_rfl)
      refine asS_ok <| br_true rfl <| br_false rfl <| br_false rfl <| br_false rfl <| br_false rfl <| nn_ok <| ldP_ok (cell_blk h9 (i := 0) rfl) <| call_mono (heap_Count_ok (hhp h9) hs x0 x1) ?_
      rintro _ w9 ⟨rfl, rfl⟩
      have ec : cntM S x = 0 := by rw [cntM, whole_none hp]; rfl
      rw [ec]
      exact asI_ok <| br_false rfl <| br_false rfl <| next h9
    · cases hy
  · -- one
    obtain ⟨k', L, R, hk', h9, cl⟩ := RH.at (F := tab T_uint64 1 fU64 p gs.length c gs * (tab T_api_Link 2 lnF p41 m41 c41 ((lnOf S x).take m41) * (blk b (prA hb rb p gs.length c) T_tenonlaw11_Pair * (HH hb a top P S * F)))) (h8.drew.perm (B := RH rb r top Q S * (tab T_uint64 1 fU64 p gs.length c gs * (tab T_api_Link 2 lnF p41 m41 c41 ((lnOf S x).take m41) * (blk b (prA hb rb p gs.length c) T_tenonlaw11_Pair * (HH hb a top P S * F))))) (by ac_rfl)) hs.ok hp
    rw [hk] at hk'
    cases hk'
    have ev : vaM S x = (o.va, 0) := by rw [vaM, hp]
    have el : lnOf S x = o.ln := by rw [lnOf, hp]
    have h8len := (hs.rng x o hp).len
    rw [el] at hm41 h8 h9
    have hm0 : m41 = o.ln.length := by rw [hm41]; omega
    subst hm0
    rw [List.take_length] at h8 h9
    rw [ev]
    rcases hwv with ⟨hwn, _⟩ | ⟨y, hy, rfl, rfl⟩
    · rw [whole_some hp] at hwn; cases hwn
    obtain ⟨oy, hpy, _⟩ := hs.whole hy
    have h10 : Sat w₀ (tab T_api_Link 2 lnF p41 o.ln.length c41 o.ln * (blk b (prA hb rb p gs.length c) T_tenonlaw11_Pair * (tab T_uint64 1 fU64 p gs.length c gs * (HH hb a top P S * (RH rb r top Q S * F))))) w8.drew := h8.drew.perm (by ac_rfl)
    refine asS_ok <| br_false rfl <| nn_ok <| ldI_ok (n := o.va) (rob_cell h9 (i := 3) rfl) <| br_false (by simp) <| br_false rfl <| br_false rfl <| nn_ok <| ldP_ok (cell_blk h10.right (i := 1) rfl) <| call_mono (rh_Whole_ok (h := x) (hrp h10.right) hs) ?_
    rintro _ w10 ⟨rfl, ⟨hwn, rfl⟩ | ⟨y', ky, oy', hwn, hpy', hky, rfl⟩⟩
    · rw [hy] at hwn; cases hwn
    rw [hy] at hwn
    cases hwn
    rw [hpy] at hpy'
    cases hpy'
    obtain ⟨ky', Ly, Ry, hky', h11, _⟩ := RH.at (hrp h10.right) hs.ok hpy
    rw [hky] at hky'
    cases hky'
    refine asP_ok <| nn_ok <| ldI_ok (rob_cell h11 (i := 0) rfl) <| br_false (by simp) <| nn_ok <| ldP_ok (cell_blk h10.right (i := 0) rfl) <| nn_ok <| ldP_ok (cell_blk h10.right (i := 1) rfl) <| call_mono (heap_Count_ok (hhp h10.right) hs x0 x1) ?_
    rintro _ w11 ⟨rfl, rfl⟩
    have ec : cntM S x = oy.cn := by rw [cntM, hy, Option.bind_some, hpy]
    rw [ec]
    refine asI_ok ⟨cell_blk h10.right (i := 1) rfl, call_mono (rh_Whole_ok (h := x) (hrp h10.right) hs) ?_⟩
    rintro _ w12 ⟨rfl, ⟨hwn, rfl⟩ | ⟨y', ky', oy', hwn, hpy', hky', rfl⟩⟩
    · rw [hy] at hwn; cases hwn
    rw [hy] at hwn
    cases hwn
    rw [hky] at hky'
    cases hky'
    refine asP_ok <| nn_ok <| ldI_ok (n := oy.cn) (rob_cell h11 (i := 2) rfl) <| br_false (by simp) <| nn_ok <| ldS_ok (rob_cell h9 (i := 4) (v := .slice L.pl o.ln.length L.cl) rfl) <| br_false (by simp) ?_
    refine ⟨fun j w m => 0 ≤ j ∧ j ≤ o.ln.length ∧ m = o.ln.length - j.toNat ∧ Sat w₀ (tab T_api_Link 2 lnF p41 o.ln.length c41 o.ln * (blk b (prA hb rb p gs.length c) T_tenonlaw11_Pair * (tab T_uint64 1 fU64 p gs.length c gs * (HH hb a top P S * (RH rb r top Q S * F))))) w, ⟨_, by decide, by omega, rfl, h10⟩, ?_⟩
    clear h8 h9 h10 h11 cl
    rintro u j w13 m ⟨j0, jl, rfl, h12⟩
    refine br_dec (fun hjlt => ?_) (fun hjge => next h12.right)
    have hj : j.toNat < o.ln.length := by omega
    obtain ⟨z, hz⟩ : ∃ z, o.ln[j.toNat]? = some z := ⟨_, List.getElem?_eq_getElem hj⟩
    have h12 := h12.drew
    obtain ⟨k', L', R', hk', h13, _⟩ := RH.at (hrp h12.right) hs.ok hp
    rw [hk] at hk'
    cases hk'
    have hlt : Sat w₀ (tab T_api_Link 2 lnF L'.pl o.ln.length L'.cl o.ln) w13.drew := (rob_open h13).right.left
    exact tab_idx lnF_len h12.left (by decide) j0 hz fun g1 hg1 => tab_ldA0 lnF_len h12.left hg1 hz <| nn_ok <| ldS_ok (rob_cell h13 (i := 4) (v := .slice L'.pl o.ln.length L'.cl) rfl) <| tab_idx lnF_len hlt (by decide) j0 hz fun g2 hg2 => tab_ldA0 lnF_len hlt hg2 hz <| still_link <| br_false (by simp) <| arith_i64 (by omega) (by omega) ⟨_, by omega, by omega, by omega, rfl, h12⟩
theorem begun_ok {most : Int} (h : Sat w₀ F w) (h0 : 1 ≤ most) (h1 : most ≤ 256) (ht : 1 ≤ top) :
    call Try.prog fn_tenonlaw11_begun #[.int .i64 most, .int .u32 top] w fun v w' => ∃ b hb a rb r, v = .pointer (some ⟨b, 0, none⟩) ∧ Sat w₀ (HPr b hb a rb r top (s0 most) [] * F) w' := by
  apply tenonlaw11_begun_call
  unfold tenonlaw11_begun
  refine call_mono (heap_New_ok h h0 h1 (by omega)) ?_
  rintro _ w1 ⟨hb, a, rfl, h2⟩
  refine ⟨_, _, rfl, call_mono (rh_New_ok h2 h0 h1 (by omega)) ?_⟩
  rintro _ w2 ⟨rb, r, rfl, h3⟩
  refine asP_ok <| new_ok h3 fun k w3 h4 => ⟨k, hb, a, rb, r, rfl, ?_⟩
  exact HPr.shut (p := none) (l := 0) (c := 0) ((tab_nil T_uint64 1 fU64 h4).perm (by
    show tab T_uint64 1 fU64 none 0 0 [] * (blk k (prA hb rb none 0 0) T_tenonlaw11_Pair * _) = _
    ac_rfl)) rfl
theorem HeapPlays_walk {W : World} {most : Int} {p : Option Addr} {l c : Nat} {xs : List ActD} (h0 : I64 most) (ht : 0 ≤ top ∧ top ≤ 4294967295) (hx : Acts W p l xs) (hl : l ≤ 9223372036854775807) :
    call Try.prog fn_tenonlaw11_HeapPlays #[.int .i64 most, .int .u32 top, .slice p l c] W fun v w' => v = .bool true ∧ Below W.heap.size W w' := by
  apply tenonlaw11_HeapPlays_call
  unfold tenonlaw11_HeapPlays
  have hW : Sat W (old W) W := Sat.start W
  have done : ∀ {w X}, Sat W (X * old W) w → Below W.heap.size W w := fun h => h.right.below'
  by_cases hno : most < 1 ∨ most > 256 ∨ top = 0
  · refine call_pure (heap_New_no hno) ⟨_, _, rfl, call_pure (rh_New_no hno) <| asP_ok <| br_true rfl <| br_true rfl <| br_true rfl <| call_mono (tenonlaw11_awake_ok hW) ?_⟩
    rintro _ w1 ⟨rfl, h1⟩
    exact asB_ok ⟨rfl, h1.below'⟩
  have hm : 1 ≤ most ∧ most ≤ 256 ∧ 1 ≤ top := by omega
  refine call_mono (heap_New_ok (top := top) hW hm.1 hm.2.1 (by omega)) ?_
  rintro _ w1 ⟨hb0, a0, rfl, h1⟩
  refine ⟨_, _, rfl, call_mono (rh_New_ok (top := top) h1.right hm.1 hm.2.1 (by omega)) ?_⟩
  rintro _ w2 ⟨rb0, r0, rfl, h2⟩
  refine asP_ok <| br_false rfl <| call_mono (begun_ok (top := top) h2.right hm.1 hm.2.1 hm.2.2) ?_
  rintro _ w3 ⟨b, hb, a, rb, r, rfl, h3⟩
  refine asP_ok ⟨fun n w m => ∃ S gs, 0 ≤ n ∧ n ≤ 120 ∧ m = (120 - n).toNat ∧ HInv top S ∧ S.most = most ∧ GOk gs ∧ (gs.length : Int) ≤ n ∧ Sat W (HPr b hb a rb r top S gs * old W) w, ⟨_, s0 most, [], by decide, by decide, rfl, s0_inv hm.1 hm.2.1 hm.2.2 ht.2, rfl, (fun g hg => by cases hg), by simp, h3⟩, ?_⟩
  rintro u n w4 m ⟨S, gs, n0, n1, rfl, hs, hM, hg, hgl, h4⟩
  have fin : ∀ {X : World → Prop}, br ((0 : Int) == 0) (call Try.prog fn_tenonlaw11_Pair_alike #[.pointer (some ⟨b, 0, none⟩)] w4 fun v21 w7 => asB v21 fun b22 => br b22 (call Try.prog fn_tenonlaw11_awake #[] w7 fun v23 w8 => asB v23 fun b24 => (fun v w' => v = Value.bool true ∧ Below W.heap.size W w') (.bool b24) w8) ((fun v w' => v = Value.bool true ∧ Below W.heap.size W w') (.bool false) w7)) ((fun v w' => v = Value.bool true ∧ Below W.heap.size W w') (.bool false) w4) := by
    intro X
    refine br_true rfl <| call_mono (Pair_alike_ok h4 hs hg (by omega)) ?_
    rintro _ w7 ⟨rfl, h5⟩
    refine asB_ok <| br_true rfl <| call_mono (tenonlaw11_awake_ok h5) ?_
    rintro _ w8 ⟨rfl, h6⟩
    exact asB_ok ⟨rfl, done h6⟩
  refine br_dec (fun hlt => br_dec (fun hlt2 => br_true rfl ?_) (fun _ => fin (X := fun _ => True))) (fun _ => fin (X := fun _ => True))
  refine hx.idx h4.right n0 (by omega) fun ad x hxx rk ra rh rx rr ld => ld <| call_mono (Pair_do_ok h4 hs hg (by omega) rk ra rh rx rr) ?_
  rintro _ w6 ⟨rfl, S', gs', q1, q2, q3, q4, h5⟩
  refine asB_ok <| br_false rfl <| arith_i64 (by omega) (by omega) ⟨_, ?_, S', gs', by omega, by omega, rfl, q1, q2.trans hM, q3, by omega, h5⟩
  omega
theorem HeapPlays_row {W : World} {most top : Int} {v : Value} (h0 : -9223372036854775808 ≤ most ∧ most ≤ 9223372036854775807) (ht : 0 ≤ top ∧ top ≤ 4294967295) (h : ∃ p l c xs, v = .slice p l c ∧ l ≤ 9223372036854775807 ∧ Acts W p l xs) : call Try.prog fn_tenonlaw11_HeapPlays #[.int .i64 most, .int .u32 top, v] W fun v w' => v = .bool true ∧ Below W.heap.size W w' := by
  obtain ⟨p, l, c, xs, rfl, hl, hx⟩ := h
  exact HeapPlays_walk h0 ht hx hl
end
end Go.Proofs.Ytgchemgnmijpdaa
