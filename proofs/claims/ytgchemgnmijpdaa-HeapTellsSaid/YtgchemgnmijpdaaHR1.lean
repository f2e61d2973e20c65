/- Contracts of the document's heap: its objects; finding, holding, making. No conditions. -/
import Derived.Test.YtgchemgnmijpdaaH10
set_option linter.unusedVariables false
set_option linter.unusedSimpArgs false
set_option maxRecDepth 100000
namespace Go.Proofs.Ytgchemgnmijpdaa
open Go.Sp Go.RowKit

structure RO where
  h : Int
  k : Nat
  o : OM
  L : Loc
def rA (q : RO) : Array Value := #[.int .u64 q.h, .int .u64 q.o.ou, .int .u32 q.o.cn, .int .i64 q.o.va, .slice q.L.pl q.o.ln.length q.L.cl, .slice q.L.pi q.o.inn.length q.L.ci]
def robH (q : RO) : HP := blk q.k (rA q) T_tenonref11_Object * objT q.o q.L
def robs : List RO → HP
  | [] => emp
  | q :: qs => robH q * robs qs
def rpF (q : RO) : List Value := [.pointer (some ⟨q.k, 0, none⟩)]
theorem rpF_len (q : RO) : (rpF q).length = 1 := rfl
theorem rpF_one (q : RO) : ∀ u ∈ rpF q, u.oneCell' = true := by simp [rpF, Value.oneCell']
theorem robjsTy : SliceTy Try.prog T_sl_ptr_tenonref11_Object 113 (.pointer none) 1 8 := ⟨by kernel_rfl, by kernel_rfl, rfl, by decide⟩
theorem robs_pull {qs : List RO} {i : Nat} {q : RO} (h : qs[i]? = some q) : robs qs = robH q * robs (qs.eraseIdx i) := by
  induction qs generalizing i with
  | nil => simp at h
  | cons z qs ih =>
    cases i with
    | zero => simp at h; subst h; rfl
    | succ i =>
      rw [List.eraseIdx_cons_succ, robs, robs, ih (by simpa using h)]
      ac_rfl
theorem robs_set {qs : List RO} {i : Nat} {q : RO} (h : i < qs.length) : robs (qs.set i q) = robH q * robs (qs.eraseIdx i) := by
  have e := robs_pull (qs := qs.set i q) (i := i) (q := q) (by simp [h])
  rw [e]
  congr 2
  apply List.ext_getElem?
  intro j
  rw [List.getElem?_eraseIdx, List.getElem?_eraseIdx]
  split
  · rw [List.getElem?_set, if_neg (by omega)]
  · rw [List.getElem?_set, if_neg (by omega)]
theorem robs_snoc {qs : List RO} {q : RO} : robs (qs ++ [q]) = robH q * robs qs := by
  induction qs with
  | nil => rfl
  | cons y qs ih => rw [List.cons_append, robs, robs, ih]; ac_rfl
/-- What is known of the list. -/
structure RSeen (P : PM) (S : HS) (l : List RO) : Prop where
  nd : (l.map (·.h)).Nodup
  pay : ∀ h o, pay S h = some o ↔ ∃ q ∈ l, q.h = h ∧ q.o = o
  ptr : ∀ q ∈ l, P q.h = some q.k
def rhA (a : Nat) (top : Int) (p : Option Addr) (l c : Nat) : Array Value := #[.int .u32 top, .pointer (some ⟨a, 0, none⟩), .slice p l c]
def zI (o : OM) : Int := 0
def RH (r a : Nat) (top : Int) (P : PM) (S : HS) : HP := ex fun l : List RO => ex fun p => ex fun c => prop (RSeen P S l) * (blk r (rhA a top p l.length c) T_tenonref11_Heap * (RAr a (mapA zI S) * (tab 113 1 rpF p l.length c l * robs l)))
section
variable {w₀ w : World} {F : HP} {r a : Nat} {top : Int} {P : PM} {S : HS}
theorem RH.open_ (h : Sat w₀ (RH r a top P S * F) w) : ∃ l p c, RSeen P S l ∧ Sat w₀ (blk r (rhA a top p l.length c) T_tenonref11_Heap * (RAr a (mapA zI S) * (tab 113 1 rpF p l.length c l * (robs l * F)))) w := by
  obtain ⟨l, h⟩ := Sat.ex h
  obtain ⟨p, h⟩ := Sat.ex h
  obtain ⟨c, h⟩ := Sat.ex h
  have h := h.perm (B := prop (RSeen P S l) * (blk r (rhA a top p l.length c) T_tenonref11_Heap * (RAr a (mapA zI S) * (tab 113 1 rpF p l.length c l * (robs l * F))))) (by ac_rfl)
  exact ⟨l, p, c, h.prop, h.right⟩
theorem RH.shut {l : List RO} {m c : Nat} {p : Option Addr} (hs : RSeen P S l) (h : Sat w₀ (blk r (rhA a top p m c) T_tenonref11_Heap * (RAr a (mapA zI S) * (tab 113 1 rpF p m c l * (robs l * F)))) w) (hm : m = l.length) : Sat w₀ (RH r a top P S * F) w := by
  subst hm
  exact Sat.to_ex l (Sat.to_ex p (Sat.to_ex c ((h.add_prop hs).perm (by ac_rfl))))
theorem RSeen.get {l : List RO} (hs : RSeen P S l) {h : Int} {o : OM} (hp : Proofs.Ytgchemgnmijpdaa.pay S h = some o) : ∃ (i k : Nat) (L : Loc), l[i]? = some (⟨h, k, o, L⟩ : RO) ∧ P h = some k := by
  obtain ⟨q, hq, rfl, rfl⟩ := (hs.pay h o).1 hp
  obtain ⟨i, hi⟩ := List.mem_iff_getElem?.1 hq
  exact ⟨i, q.k, q.L, hi, hs.ptr q hq⟩
theorem RSeen.one {l : List RO} (hs : RSeen P S l) {i j : Nat} {q q' : RO} (h1 : l[i]? = some q) (h2 : l[j]? = some q') (h : q.h = q'.h) : i = j := by
  have hi := (List.getElem?_eq_some_iff.1 h1).1
  have hj := (List.getElem?_eq_some_iff.1 h2).1
  refine (List.getElem?_inj (by simpa using hi) hs.nd).1 ?_
  rw [List.getElem?_map, List.getElem?_map, h1, h2, Option.map_some, Option.map_some, h]
theorem RSeen.up {l : List RO} (hs : RSeen P S l) (ho : AOk S) {i : Nat} {h : Int} {k : Nat} {o o' : OM} {L L' : Loc} (hi : l[i]? = some ⟨h, k, o, L⟩) : RSeen P (upA S h o') (l.set i ⟨h, k, o', L'⟩) := by
  have hlt := (List.getElem?_eq_some_iff.1 hi).1
  have hp : Proofs.Ytgchemgnmijpdaa.pay S h = some o := (hs.pay h o).2 ⟨_, List.mem_of_getElem? hi, rfl, rfl⟩
  have e : (l.set i ⟨h, k, o', L'⟩).map (·.h) = l.map (·.h) := by
    rw [List.map_set]
    apply List.ext_getElem?
    intro j
    rw [List.getElem?_set]
    split
    · rename_i e
      subst e
      rw [if_pos (by simpa using hlt), List.getElem?_map, hi]
      rfl
    · rfl
  refine ⟨by rw [e]; exact hs.nd, fun x y => ?_, fun q hq => ?_⟩
  · rw [pay_up ho hp]
    constructor
    · intro h1
      split at h1
      · rename_i ex
        cases h1
        exact ⟨⟨h, k, o', L'⟩, List.mem_iff_getElem?.2 ⟨i, by simp [hlt]⟩, ex.symm, rfl⟩
      · rename_i ex
        obtain ⟨q, hq, rfl, rfl⟩ := (hs.pay x y).1 h1
        obtain ⟨j, hj⟩ := List.mem_iff_getElem?.1 hq
        refine ⟨q, List.mem_iff_getElem?.2 ⟨j, ?_⟩, rfl, rfl⟩
        rw [List.getElem?_set, if_neg]
        · exact hj
        · intro eij
          subst eij
          rw [hi] at hj
          cases hj
          exact ex rfl
    · rintro ⟨q, hq, rfl, rfl⟩
      obtain ⟨j, hj⟩ := List.mem_iff_getElem?.1 hq
      rcases set_get hj with ⟨rfl, rfl⟩ | ⟨hne, hj⟩
      · rw [if_pos rfl]
      · rw [if_neg]
        · exact (hs.pay _ _).2 ⟨q, List.mem_of_getElem? hj, rfl, rfl⟩
        · intro ex
          exact hne (hs.one hj hi ex)
  · obtain ⟨j, hj⟩ := List.mem_iff_getElem?.1 hq
    rcases set_get hj with ⟨rfl, rfl⟩ | ⟨hne, hj⟩
    · exact hs.ptr ⟨h, k, o, L⟩ (List.mem_of_getElem? hi)
    · exact hs.ptr q (List.mem_of_getElem? hj)
theorem map_up {S : HS} (ho : AOk S) {h : Int} {o o' : OM} : mapA zI (upA S h o') = mapA zI S := by
  unfold upA
  split
  · exact setX_unit fun _ _ => rfl
  · rfl
theorem RH.at (h : Sat w₀ (RH r a top P S * F) w) (ho : AOk S) {x : Int} {o : OM} (hp : pay S x = some o) :
    ∃ k L R, P x = some k ∧ Sat w₀ (robH ⟨x, k, o, L⟩ * (R * F)) w ∧ ∀ (o' : OM) (L' : Loc) (F' : HP) (w' : World), Sat w₀ (robH ⟨x, k, o', L'⟩ * (R * F')) w' → Sat w₀ (RH r a top P (upA S x o') * F') w' := by
  obtain ⟨l, p, c, hs, h⟩ := RH.open_ h
  obtain ⟨i, k, L, hi, hk⟩ := hs.get hp
  have hlt := (List.getElem?_eq_some_iff.1 hi).1
  refine ⟨k, L, blk r (rhA a top p l.length c) T_tenonref11_Heap * (RAr a (mapA zI S) * (tab 113 1 rpF p l.length c l * robs (l.eraseIdx i))), hk, h.perm (by rw [robs_pull hi]; ac_rfl), fun o' L' F' w' h' => ?_⟩
  refine RH.shut (m := l.length) (c := c) (p := p) (hs.up ho (o' := o') (L' := L') hi) (h'.perm ?_) (by simp)
  rw [map_up ho (o := o), robs_set hlt]
  have e : tab 113 1 rpF p l.length c (l.set i ⟨x, k, o', L'⟩) = tab 113 1 rpF p l.length c l := by
    unfold tab
    congr 1
    rw [List.flatMap, List.flatMap]
    congr 1
    rw [List.map_set]
    apply List.ext_getElem?
    intro j
    rw [List.getElem?_set]
    split
    · rename_i e
      subst e
      rw [if_pos (by simpa using hlt), List.getElem?_map, hi]
      rfl
    · rfl
  rw [e]
  ac_rfl
theorem rob_cell {q : RO} (h : Sat w₀ (robH q * F) w) {i : Nat} {v : Value} (hv : (rA q)[i]? = some v) : w.cell? ((⟨q.k, 0, none⟩ : Addr).add i) = some v :=
  cell_blk (show Sat w₀ (blk q.k (rA q) T_tenonref11_Object * objT q.o q.L) w from h.left) hv
theorem rob_open {q : RO} (h : Sat w₀ (robH q * F) w) : Sat w₀ (blk q.k (rA q) T_tenonref11_Object * (tab T_api_Link 2 lnF q.L.pl q.o.ln.length q.L.cl q.o.ln * (tab T_uint64 1 fU64 q.L.pi q.o.inn.length q.L.ci q.o.inn * F))) w := h.perm (by rw [robH, objT]; ac_rfl)
theorem rob_shut {q : RO} (h : Sat w₀ (blk q.k (rA q) T_tenonref11_Object * (tab T_api_Link 2 lnF q.L.pl q.o.ln.length q.L.cl q.o.ln * (tab T_uint64 1 fU64 q.L.pi q.o.inn.length q.L.ci q.o.inn * F))) w) : Sat w₀ (robH q * F) w := h.perm (by rw [robH, objT]; ac_rfl)
theorem RH.c0 (h : Sat w₀ (RH r a top P S * F) w) : w.cell? ((⟨r, 0, none⟩ : Addr).add 0) = some (.int .u32 top) := by
  obtain ⟨l, p, c, _, h⟩ := RH.open_ h
  exact cell_blk h (i := 0) rfl
theorem RH.c1 (h : Sat w₀ (RH r a top P S * F) w) : w.cell? ((⟨r, 0, none⟩ : Addr).add 1) = some (.pointer (some ⟨a, 0, none⟩)) := by
  obtain ⟨l, p, c, _, h⟩ := RH.open_ h
  exact cell_blk h (i := 1) rfl
theorem RSeen.cnt {l : List RO} (hs : RSeen P S l) (ho : AOk S) : l.length ≤ S.cnt := by
  have : (l.map (·.h)).length ≤ S.cnt := nodup_cnt ho hs.nd fun x hx => by
    obtain ⟨q, hq, rfl⟩ := List.mem_map.1 hx
    exact ⟨q.o, (hs.pay _ _).2 ⟨q, hq, rfl, rfl⟩⟩
  simpa using this
theorem rh_New_ok {most : Int} (h : Sat w₀ F w) (h0 : 1 ≤ most) (h1 : most ≤ 256) (ht : top ≠ 0) :
    call Try.prog fn_tenonref11_New #[.int .i64 most, .int .u32 top] w fun v w' => ∃ r a, v = .pointer (some ⟨r, 0, none⟩) ∧ Sat w₀ (RH r a top (fun _ => none) (s0 most) * F) w' := by
  apply tenonref11_New_call
  unfold tenonref11_New
  refine br_false (by simp; omega) <| br_false (by simp; omega) <| br_false (by simpa using ht) <| call_mono (ref_New_ok h h0 (by omega) (by decide)) ?_
  rintro _ w1 ⟨a, rfl, h2⟩
  refine asP_ok <| new_ok h2 fun r w2 h3 => ⟨r, a, rfl, ?_⟩
  refine RH.shut (l := []) (p := none) (c := 0) (m := 0) ⟨List.nodup_nil, fun x y => by simp [s0_pay], fun q hq => (by cases hq)⟩ ((tab_nil 113 1 rpF (h3.with_emp)).perm (by
    show tab 113 1 rpF none 0 0 [] * (emp * (blk r _ T_tenonref11_Heap * (RAr a (mapA zI (s0 most)) * F))) = blk r _ T_tenonref11_Heap * (RAr a (mapA zI (s0 most)) * (tab 113 1 rpF none 0 0 [] * (emp * F)))
    unfold rhA
    ac_rfl)) rfl
theorem rh_New_no {most : Int} (h0 : most < 1 ∨ most > 256 ∨ top = 0) : PureCall Try.prog fn_tenonref11_New #[.int .i64 most, .int .u32 top] (.pointer none) := by
  intro w
  apply tenonref11_New_call
  unfold tenonref11_New
  exact br_dec (fun _ => ⟨rfl, rfl⟩) fun _ => br_dec (fun _ => ⟨rfl, rfl⟩) fun _ => br_true (by simp; omega) ⟨rfl, rfl⟩
theorem rh_Find_ok {h : Int} (hh : Sat w₀ (RH r a top P S * F) w) (ho : AOk S) :
    call Try.prog fn_tenonref11_Heap_Find #[.pointer (some ⟨r, 0, none⟩), .int .u64 h] w fun v w' => w' = w ∧
      ((pay S h = none ∧ v = .pointer none) ∨ ∃ k o, pay S h = some o ∧ P h = some k ∧ v = .pointer (some ⟨k, 0, none⟩)) := by
  apply tenonref11_Heap_Find_call
  unfold tenonref11_Heap_Find
  obtain ⟨l, p, c, hs, h2⟩ := RH.open_ hh
  have hl := hs.cnt ho
  have hm := cnt_le ho
  have hm1 := ho.most1
  have c2 := cell_blk h2 (i := 2) (v := .slice p l.length c) rfl
  have ht : Sat w₀ (tab 113 1 rpF p l.length c l) w := h2.right.right.left
  refine ⟨fun n w' m => 0 ≤ n ∧ n ≤ l.length ∧ m = l.length - n.toNat ∧ (∀ q ∈ l.take n.toNat, q.h ≠ h) ∧ w' = w, ⟨_, by decide, by omega, rfl, by simp, rfl⟩, ?_⟩
  rintro u n w1 m ⟨n0, nl, rfl, hno, rfl⟩
  refine nn_ok <| ldS_ok c2 <| br_dec (fun hlt => ?_) (fun hge => ?_)
  · have hi : n.toNat < l.length := by omega
    obtain ⟨q, hq⟩ : ∃ q, l[n.toNat]? = some q := ⟨_, List.getElem?_eq_getElem hi⟩
    have hqm := List.mem_of_getElem? hq
    have cq : w1.cell? ((⟨q.k, 0, none⟩ : Addr).add 0) = some (.int .u64 q.h) := rob_cell (F := robs (l.eraseIdx n.toNat)) (by have := h2.right.right.right.left; rwa [robs_pull hq] at this) rfl
    have cp : ∀ {g : Nat}, p = some ⟨g, 0, none⟩ → w1.cell? (⟨g, n.toNat * 1, none⟩ : Addr) = some (.pointer (some ⟨q.k, 0, none⟩)) := fun hg => by
      have := tab_cell rpF_len ht hg hq (j := 0) (by decide) rfl
      rwa [Sp.add_zero] at this
    refine nn_ok <| ldS_ok c2 <| tab_idx rpF_len ht (by decide) n0 hq fun g hg => ldP_ok (cp hg) <| nn_ok <| ldI_ok cq <| br_split (fun he => ?_) (fun hne => ?_)
    · have he : q.h = h := by simpa using he
      refine nn_ok <| ldS_ok c2 <| tab_idx rpF_len ht (by decide) n0 hq fun g hg => ldP_ok (cp hg) ⟨rfl, .inr ⟨q.k, q.o, (hs.pay _ _).2 ⟨q, hqm, he, rfl⟩, ?_, rfl⟩⟩
      rw [← he]
      exact hs.ptr q hqm
    · have hne : q.h ≠ h := by simpa using hne
      refine arith_i64 (by omega) (by omega) ⟨_, ?_, by omega, by omega, rfl, fun y hy => ?_, rfl⟩
      · omega
      · rw [show (n + 1).toNat = n.toNat + 1 by omega, List.take_add_one, hq] at hy
        rcases List.mem_append.1 hy with hy | hy
        · exact hno y hy
        · simp at hy; subst hy; exact hne
  · rw [List.take_of_length_le (by omega)] at hno
    refine ⟨rfl, .inl ⟨?_, rfl⟩⟩
    cases hp : pay S h with
    | none => rfl
    | some o =>
      obtain ⟨q, hq, e, _⟩ := (hs.pay h o).1 hp
      exact absurd e (hno q hq)
theorem rh_Whole_ok {h : Int} (hh : Sat w₀ (RH r a top P S * F) w) (hs : HInv top S) :
    call Try.prog fn_tenonref11_Heap_Whole #[.pointer (some ⟨r, 0, none⟩), .int .u64 h] w fun v w' => w' = w ∧
      ((whole S h = none ∧ v = .pointer none) ∨ ∃ x k o, whole S h = some x ∧ pay S x = some o ∧ P x = some k ∧ v = .pointer (some ⟨k, 0, none⟩)) := by
  apply tenonref11_Heap_Whole_call
  unfold tenonref11_Heap_Whole
  refine call_mono (rh_Find_ok hh hs.ok) ?_
  rintro _ w1 ⟨rfl, ⟨hp, rfl⟩ | ⟨k, o, hp, hk, rfl⟩⟩
  · exact asP_ok <| br_true rfl ⟨rfl, .inl ⟨whole_none hp, rfl⟩⟩
  · obtain ⟨k', L, R, hk', h2, _⟩ := RH.at hh hs.ok hp
    rw [hk] at hk'
    cases hk'
    have c1 := rob_cell h2 (i := 1) (v := .int .u64 o.ou) rfl
    refine asP_ok <| br_false rfl <| nn_ok <| ldI_ok c1 <| br_split (fun he => ?_) (fun hne => nn_ok <| ldI_ok c1 <| call_mono (rh_Find_ok hh hs.ok) ?_)
    · have he : o.ou = 0 := by simpa using he
      exact ⟨rfl, .inr ⟨h, k, o, by rw [whole_some hp, if_neg (by simp [he])], hp, hk, rfl⟩⟩
    · have hne : o.ou ≠ 0 := by simpa using hne
      obtain ⟨v, hv1, hv2, hv3⟩ := hs.out h o hp hne
      rintro _ w2 ⟨rfl, ⟨hp', rfl⟩ | ⟨k2, o2, hp', hk2, rfl⟩⟩
      · rw [hv1] at hp'; cases hp'
      · exact asP_ok ⟨rfl, .inr ⟨o.ou, k2, o2, by rw [whole_some hp, if_pos hne], hp', hk2, rfl⟩⟩
theorem rh_Up_ok {h : Int} (hh : Sat w₀ (RH r a top P S * F) w) (hs : HInv top S) :
    call Try.prog fn_tenonref11_Heap_Up #[.pointer (some ⟨r, 0, none⟩), .int .u64 h] w fun v w' => v = .tuple #[.int .u32 (upM top S h).2.1, .int .i64 (upM top S h).2.2] ∧ Sat w₀ (RH r a top P (upM top S h).1 * F) w' := by
  apply tenonref11_Heap_Up_call
  unfold tenonref11_Heap_Up
  refine call_mono (rh_Whole_ok hh hs) ?_
  rintro _ w1 ⟨rfl, ⟨hw, rfl⟩ | ⟨x, k, o, hw, hp, hk, rfl⟩⟩
  · refine asP_ok <| br_true rfl ?_
    rw [upM, hw]
    exact ⟨rfl, hh⟩
  · have hh := hh.drew
    obtain ⟨k', L, R, hk', h2, cl⟩ := RH.at hh hs.ok hp
    rw [hk] at hk'
    cases hk'
    have hr := hs.rng x o hp
    have ht := hs.tp
    have hcn := hr.cn
    have h3 := rob_open h2
    have c0 := cell_blk h3 (i := 2) (v := .int .u32 o.cn) rfl
    rw [upM, hw]
    simp only [hp]
    refine asP_ok <| br_false rfl <| nn_ok <| ldI_ok c0 <| nn_ok <| ldI_ok (RH.c0 hh) <| br_split (fun he => ?_) (fun hne => ?_)
    · have he : o.cn = top := by simpa using he
      rw [if_pos he]
      exact ⟨rfl, hh⟩
    · have hne : o.cn ≠ top := by simpa using hne
      rw [if_neg hne]
      refine nn_ok <| ldI_ok c0 <| arith_u32 (by omega) (by omega) <| nn_ok <| st_ok (i := 2) h3 (by simp [rA]) fun w2 h4 => ?_
      have h4 : Sat w₀ (blk k (rA ⟨x, k, { o with cn := o.cn + 1 }, L⟩) T_tenonref11_Object * (tab T_api_Link 2 lnF L.pl o.ln.length L.cl o.ln * (tab T_uint64 1 fU64 L.pi o.inn.length L.ci o.inn * (R * F)))) w2 := h4
      exact nn_ok <| ldI_ok (cell_blk h4 (i := 2) rfl) ⟨rfl, cl { o with cn := o.cn + 1 } L F w2 (rob_shut (q := ⟨x, k, { o with cn := o.cn + 1 }, L⟩) h4)⟩
end
end Go.Proofs.Ytgchemgnmijpdaa
