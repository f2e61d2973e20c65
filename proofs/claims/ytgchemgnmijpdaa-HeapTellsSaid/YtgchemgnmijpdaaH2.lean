/- Contracts of layer 11 (heap): objects in memory; finding, holding. No conditions. -/
import Derived.Test.YtgchemgnmijpdaaH5
import Derived.Test.YtgchemgnmijpdaaAG
import Derived.Test.YtgchemgnmijpdaaAR
import Derived.Test.YtgchemgnmijpdaaSpQ
set_option linter.unusedVariables false
set_option linter.unusedSimpArgs false
set_option maxRecDepth 100000
namespace Go.Proofs.Ytgchemgnmijpdaa
open Go.Sp Go.RowKit

/-- Where an object's slots and inners lie. -/
structure Loc where
  pl : Option Addr
  cl : Nat
  pi : Option Addr
  ci : Nat
abbrev PO := Option (Nat × OM × Loc)
def ptO (x : PO) : Pay := x.map (·.1)
def omO (x : PO) : OM := match x with | some q => q.2.1 | none => z0
def lnF (x : Int × Int) : List Value := [.int .i64 x.1, .int .u64 x.2]
theorem lnF_len (x : Int × Int) : (lnF x).length = 2 := rfl
theorem lnF_one (x : Int × Int) : ∀ u ∈ lnF x, u.oneCell' = true := by simp [lnF, Value.oneCell']
def lnA (x : Int × Int) : Array Value := #[.int .i64 x.1, .int .u64 x.2]
theorem lnA_one (x : Int × Int) : ∀ u ∈ (lnA x).toList, u.oneCell' = true := by simp [lnA, Value.oneCell']
theorem linksTy : SliceTy Try.prog T_sl_api_Link T_api_Link (.agg (lnA (0, 0))) 2 16 := ⟨by kernel_rfl, by kernel_rfl, rfl, by decide⟩
def oA (o : OM) (L : Loc) : Array Value := #[.int .u32 o.cn, .int .u64 o.ou, .int .i64 o.va, .slice L.pl o.ln.length L.cl, .slice L.pi o.inn.length L.ci]
def objT (o : OM) (L : Loc) : HP := tab T_api_Link 2 lnF L.pl o.ln.length L.cl o.ln * tab T_uint64 1 fU64 L.pi o.inn.length L.ci o.inn
def objH (k : Nat) (o : OM) (L : Loc) : HP := blk k (oA o L) T_heap_object * objT o L
def starH (x : PO) : HP := match x with | some q => objH q.1 q.2.1 q.2.2 | none => emp
def stars : List (Spot PO) → HP
  | [] => emp
  | y :: ys => starH y.x * stars ys
theorem stars_pull {ys : List (Spot PO)} {i : Nat} {y : Spot PO} (h : ys[i]? = some y) : stars ys = starH y.x * stars (ys.eraseIdx i) := by
  induction ys generalizing i with
  | nil => simp at h
  | cons z ys ih =>
    cases i with
    | zero => simp at h; subst h; rfl
    | succ i =>
      rw [List.eraseIdx_cons_succ, stars, stars, ih (by simpa using h)]
      ac_rfl
theorem stars_set {ys : List (Spot PO)} {i : Nat} {z : Spot PO} (h : i < ys.length) : stars (ys.set i z) = starH z.x * stars (ys.eraseIdx i) := by
  have e := stars_pull (ys := ys.set i z) (i := i) (y := z) (by simp [h])
  rw [e]
  congr 2
  apply List.ext_getElem?
  intro j
  rw [List.getElem?_eraseIdx, List.getElem?_eraseIdx]
  split
  · rw [List.getElem?_set, if_neg (by omega)]
  · rw [List.getElem?_set, if_neg (by omega)]
theorem stars_snoc {ys : List (Spot PO)} {z : Spot PO} : stars (ys ++ [z]) = starH z.x * stars ys := by
  induction ys with
  | nil => rfl
  | cons y ys ih => rw [List.cons_append, stars, stars, ih]; ac_rfl

abbrev PM := Int → Option Nat
def updP (P : PM) (h : Int) (k : Option Nat) : PM := fun x => if x = h then k else P x
/-- What is known of an arena of objects. -/
structure Seen (P : PM) (S : HS) (s : AS PO) : Prop where
  om : mapA omO s = S
  sm : ∀ y ∈ s.sp, y.st = 1 → ∃ q, y.x = some q
  ptr : ∀ h, P h = (pay s h).bind ptO
def hpA (a : Nat) (top : Int) : Array Value := #[.int .u32 top, .pointer (some ⟨a, 0, none⟩)]
def HH (b a : Nat) (top : Int) (P : PM) (S : HS) : HP := ex fun s : AS PO => prop (Seen P S s) * (blk b (hpA a top) T_heap_Heap * (Ar a (mapA ptO s) * stars s.sp))
section
variable {w₀ w : World} {F : HP} {b a : Nat} {top : Int} {P : PM} {S : HS}
theorem HH.open_ (h : Sat w₀ (HH b a top P S * F) w) : ∃ s, Seen P S s ∧ Sat w₀ (blk b (hpA a top) T_heap_Heap * (Ar a (mapA ptO s) * (stars s.sp * F))) w := by
  obtain ⟨s, h⟩ := Sat.ex h
  have h := h.perm (B := prop (Seen P S s) * (blk b (hpA a top) T_heap_Heap * (Ar a (mapA ptO s) * (stars s.sp * F)))) (by ac_rfl)
  exact ⟨s, h.prop, h.right⟩
theorem HH.shut {s : AS PO} (hs : Seen P S s) (h : Sat w₀ (blk b (hpA a top) T_heap_Heap * (Ar a (mapA ptO s) * (stars s.sp * F))) w) : Sat w₀ (HH b a top P S * F) w :=
  Sat.to_ex s ((h.add_prop hs).perm (by ac_rfl))
theorem Seen.ok {s : AS PO} (h : Seen P S s) (hs : AOk S) : AOk s := map_ok (h.om ▸ hs)
theorem Seen.get {s : AS PO} (hs : Seen P S s) (ho : AOk S) {h : Int} {o : OM} (hp : pay S h = some o) : ∃ i y k L, find s h = some i ∧ s.sp[i]? = some y ∧ y.st = 1 ∧ h = hd i y.g ∧ y.x = some (k, o, L) ∧ P h = some k ∧ pay s h = some (some (k, o, L)) := by
  have hok := hs.ok ho
  rw [← hs.om, pay_map hok] at hp
  obtain ⟨x, hx, e⟩ := Option.map_eq_some_iff.1 hp
  obtain ⟨i, y, h1, h2, h3, h4, h5⟩ := pay_spot hok hx
  obtain ⟨⟨k, o', L⟩, hq⟩ := hs.sm y (List.mem_of_getElem? h2) h3
  rw [← h5, hq] at e
  have e : o' = o := e
  subst e
  refine ⟨i, y, k, L, h1, h2, h3, h4, hq, ?_, by rw [hx, ← h5, hq]⟩
  rw [hs.ptr, hx, ← h5, hq]
  rfl
theorem Seen.none_ {s : AS PO} (hs : Seen P S s) (ho : AOk S) {h : Int} (hp : pay S h = none) : pay s h = none ∧ P h = none ∧ find s h = none := by
  have hok := hs.ok ho
  rw [← hs.om, pay_map hok] at hp
  have hx : pay s h = none := by simpa using hp
  refine ⟨hx, by rw [hs.ptr, hx]; rfl, ?_⟩
  cases hf : find s h with
  | none => rfl
  | some i =>
    obtain ⟨y, hy, _⟩ := (find_iff hok).1 hf
    rw [pay, hf, Option.bind_some, hy] at hx
    cases hx
theorem Seen.up {s : AS PO} (hs : Seen P S s) (ho : AOk S) {h : Int} {o o' : OM} {k : Nat} {L L' : Loc} (hp : pay s h = some (some (k, o, L))) : Seen P (upA S h o') (upA s h (some (k, o', L'))) := by
  have hok := hs.ok ho
  refine ⟨?_, ?_, fun x => ?_⟩
  · rw [up_map hok, hs.om]; rfl
  · intro y hy h1
    unfold upA at hy
    split at hy
    · rename_i i hi
      obtain ⟨z, hz, _⟩ := (find_iff hok).1 hi
      rw [setX_eq hz] at hy
      rcases List.mem_or_eq_of_mem_set hy with hy | rfl
      · exact hs.sm y hy h1
      · exact ⟨_, rfl⟩
    · exact hs.sm y hy h1
  · rw [pay_up hok hp]
    split
    · rename_i e
      rw [e, hs.ptr, hp]
      rfl
    · exact hs.ptr x
theorem obj_cell {k : Nat} {o : OM} {L : Loc} (h : Sat w₀ (objH k o L * F) w) {i : Nat} {v : Value} (hv : (oA o L)[i]? = some v) : w.cell? ((⟨k, 0, none⟩ : Addr).add i) = some v :=
  cell_blk (show Sat w₀ (blk k (oA o L) T_heap_object * objT o L) w from h.left) hv
/-- One object, apart from the others. -/
theorem HH.at (h : Sat w₀ (HH b a top P S * F) w) (ho : AOk S) {x : Int} {o : OM} (hp : pay S x = some o) :
    ∃ k L R, P x = some k ∧ Sat w₀ (objH k o L * (R * F)) w ∧ ∀ (o' : OM) (L' : Loc) (F' : HP) (w' : World), Sat w₀ (objH k o' L' * (R * F')) w' → Sat w₀ (HH b a top P (upA S x o') * F') w' := by
  obtain ⟨s, hs, h⟩ := HH.open_ h
  obtain ⟨i, y, k, L, h1, h2, h3, h4, h5, h6, h7⟩ := hs.get ho hp
  refine ⟨k, L, blk b (hpA a top) T_heap_Heap * (Ar a (mapA ptO s) * stars (s.sp.eraseIdx i)), h6, h.perm ?_, fun o' L' F' w' h' => ?_⟩
  · rw [stars_pull h2, h5, starH]
    ac_rfl
  · refine HH.shut (hs.up ho (o' := o') (L' := L') h7) (h'.perm ?_)
    have e1 : mapA ptO (upA s x (some (k, o', L'))) = mapA ptO s := by
      unfold upA
      rw [h1]
      exact setX_unit fun z hz => by rw [h2] at hz; cases hz; rw [h5]; rfl
    have e2 : stars (upA s x (some (k, o', L'))).sp = objH k o' L' * stars (s.sp.eraseIdx i) := by
      unfold upA
      rw [h1]
      dsimp only
      rw [setX_eq h2]
      exact stars_set (List.getElem?_eq_some_iff.1 h2).1
    rw [e1, e2]
    ac_rfl
theorem HH.c0 (h : Sat w₀ (HH b a top P S * F) w) : w.cell? ((⟨b, 0, none⟩ : Addr).add 0) = some (.int .u32 top) := by
  obtain ⟨s, _, h⟩ := HH.open_ h
  exact cell_blk h (i := 0) rfl
theorem HH.c1 (h : Sat w₀ (HH b a top P S * F) w) : w.cell? ((⟨b, 0, none⟩ : Addr).add 1) = some (.pointer (some ⟨a, 0, none⟩)) := by
  obtain ⟨s, _, h⟩ := HH.open_ h
  exact cell_blk h (i := 1) rfl
theorem HH.ptr (h : Sat w₀ (HH b a top P S * F) w) (ho : AOk S) {x : Int} {o : OM} (hp : pay S x = some o) : ∃ k, P x = some k := by
  obtain ⟨k, _, _, hk, _⟩ := HH.at h ho hp
  exact ⟨k, hk⟩

/-! ### New, find -/
theorem heap_New_ok {most : Int} (h : Sat w₀ F w) (h0 : 1 ≤ most) (h1 : most ≤ 256) (ht : top ≠ 0) :
    call Try.prog fn_heap_New #[.int .i64 most, .int .u32 top] w fun v w' => ∃ b a, v = .tuple #[.pointer (some ⟨b, 0, none⟩), .int .i64 0] ∧ Sat w₀ (HH b a top (fun _ => none) ⟨most, 1, [], [], 0⟩ * F) w' := by
  apply heap_New_call
  unfold heap_New
  refine br_false (by simp; omega) <| br_false (by simp; omega) <| br_false (by simpa using ht) <| call_mono (arena_New_ok h h0 (by omega) (by decide)) ?_
  rintro _ w1 ⟨a, rfl, h2⟩
  refine ⟨_, _, rfl, new_ok h2 fun b w2 h3 => ⟨b, a, rfl, ?_⟩⟩
  refine HH.shut (s := ⟨most, 1, [], [], 0⟩) ⟨rfl, fun y hy => (by cases hy), fun h => ?_⟩ ((h3.with_emp).perm (by
    show emp * (blk b (hpA a top) 86 * (Ar a ⟨most, 1, [], [], 0⟩ * F)) = blk b (hpA a top) T_heap_Heap * (Ar a ⟨most, 1, [], [], 0⟩ * (emp * F))
    ac_rfl))
  have : pay (⟨most, 1, [], [], 0⟩ : AS PO) h = none := by
    unfold pay find
    split
    · rfl
    · simp
  rw [this]
  rfl
theorem heap_New_no {most : Int} (h0 : most < 1 ∨ most > 256 ∨ top = 0) : PureCall Try.prog fn_heap_New #[.int .i64 most, .int .u32 top] (.tuple #[.pointer none, .int .i64 1]) := by
  intro w
  apply heap_New_call
  unfold heap_New
  exact br_dec (fun _ => ⟨rfl, rfl⟩) fun _ => br_dec (fun _ => ⟨rfl, rfl⟩) fun _ => br_true (by simp; omega) ⟨rfl, rfl⟩
theorem hfind_nil {h : Int} : PureCall Try.prog fn_heap_Heap_find #[.pointer none, .int .u64 h] (.tuple #[.pointer none, .int .i64 2]) := by
  intro w
  apply heap_Heap_find_call
  unfold heap_Heap_find
  exact br_true rfl ⟨rfl, rfl⟩
theorem hfind_ok {h : Int} (hh : Sat w₀ (HH b a top P S * F) w) (ho : AOk S) (h0 : 0 ≤ h) (h1 : h ≤ 18446744073709551615) :
    call Try.prog fn_heap_Heap_find #[.pointer (some ⟨b, 0, none⟩), .int .u64 h] w fun v w' => w' = w ∧
      ((pay S h = none ∧ v = .tuple #[.pointer none, .int .i64 2]) ∨ ∃ k o, pay S h = some o ∧ P h = some k ∧ v = .tuple #[.pointer (some ⟨k, 0, none⟩), .int .i64 0]) := by
  apply heap_Heap_find_call
  unfold heap_Heap_find
  refine br_false rfl <| nn_ok <| ldP_ok (HH.c1 hh) ?_
  obtain ⟨s, hs, h2⟩ := HH.open_ hh
  refine call_mono (arena_Get_ok (h2.perm (B := Ar a (mapA ptO s) * (blk b (hpA a top) T_heap_Heap * (stars s.sp * F))) (by ac_rfl)) h0 h1) ?_
  rintro v w1 ⟨rfl, hv⟩
  rw [find_mapA (hs.ok ho)] at hv
  cases hp : pay S h with
  | none =>
    obtain ⟨_, _, hf⟩ := hs.none_ ho hp
    rw [hf] at hv
    cases hv
    exact ⟨_, _, rfl, rfl, .inl ⟨rfl, rfl⟩⟩
  | some o =>
    obtain ⟨i, y, k, L, q1, q2, q3, q4, q5, q6, q7⟩ := hs.get ho hp
    rw [q1, Option.bind_some, mapA_get, q2] at hv
    have hv : v = .tuple #[PV (ptO y.x), .int .i64 0] := hv
    rw [q5] at hv
    subst hv
    exact ⟨_, _, rfl, rfl, .inr ⟨k, o, rfl, q6, rfl⟩⟩
theorem heap_Whole_nil {h : Int} : PureCall Try.prog fn_heap_Heap_Whole #[.pointer none, .int .u64 h] (.tuple #[.int .u64 0, .int .i64 2]) := by
  intro w
  apply heap_Heap_Whole_call
  unfold heap_Heap_Whole
  exact call_pure hfind_nil ⟨_, _, rfl, br_true rfl ⟨rfl, rfl⟩⟩
/-- A number and an error: that it is, or that there is none. -/
def optV (r : Option Int) : Value := match r with | some n => .tuple #[.int .u64 n, .int .i64 0] | none => .tuple #[.int .u64 0, .int .i64 2]
theorem heap_Whole_ok {h : Int} (hh : Sat w₀ (HH b a top P S * F) w) (ho : AOk S) (h0 : 0 ≤ h) (h1 : h ≤ 18446744073709551615) :
    call Try.prog fn_heap_Heap_Whole #[.pointer (some ⟨b, 0, none⟩), .int .u64 h] w fun v w' => w' = w ∧ v = optV (whole S h) := by
  apply heap_Heap_Whole_call
  unfold heap_Heap_Whole
  refine call_mono (hfind_ok hh ho h0 h1) ?_
  rintro _ w1 ⟨rfl, ⟨hp, rfl⟩ | ⟨k, o, hp, hk, rfl⟩⟩
  · exact ⟨_, _, rfl, br_true rfl ⟨rfl, by rw [whole_none hp]; rfl⟩⟩
  · obtain ⟨k', L, R, hk', h2, _⟩ := HH.at hh ho hp
    rw [hk] at hk'
    cases hk'
    have c1 : w1.cell? ((⟨k, 0, none⟩ : Addr).add 1) = some (.int .u64 o.ou) := obj_cell h2 (i := 1) rfl
    rw [whole_some hp]
    refine ⟨_, _, rfl, br_false rfl <| nn_ok <| ldI_ok c1 <| br_split (fun hne => nn_ok <| ldI_ok c1 ⟨rfl, ?_⟩) (fun he => ⟨rfl, ?_⟩)⟩
    · have hne : o.ou ≠ 0 := by simpa using hne
      rw [if_pos hne]; rfl
    · have he : o.ou = 0 := by simpa using he
      rw [if_neg (by simp [he])]; rfl
theorem hwhole_ok {h : Int} (hh : Sat w₀ (HH b a top P S * F) w) (hs : HInv top S) (h0 : 0 ≤ h) (h1 : h ≤ 18446744073709551615) :
    call Try.prog fn_heap_Heap_whole #[.pointer (some ⟨b, 0, none⟩), .int .u64 h] w fun v w' => w' = w ∧
      ((whole S h = none ∧ v = .tuple #[.pointer none, .int .i64 2]) ∨ ∃ x k o, whole S h = some x ∧ pay S x = some o ∧ P x = some k ∧ v = .tuple #[.pointer (some ⟨k, 0, none⟩), .int .i64 0]) := by
  apply heap_Heap_whole_call
  unfold heap_Heap_whole
  refine call_mono (heap_Whole_ok hh hs.ok h0 h1) ?_
  rintro _ w1 ⟨rfl, rfl⟩
  cases hw : whole S h with
  | none => exact ⟨_, _, rfl, br_true rfl ⟨rfl, .inl ⟨rfl, rfl⟩⟩⟩
  | some x =>
    obtain ⟨o, hp, _⟩ := hs.whole hw
    have hr := pay_range hs.ok hp
    refine ⟨_, _, rfl, br_false rfl <| call_mono (hfind_ok hh hs.ok (by omega) (by omega)) ?_⟩
    rintro _ w2 ⟨rfl, ⟨hp', rfl⟩ | ⟨k, o', hp', hk, rfl⟩⟩
    · rw [hp] at hp'; cases hp'
    · exact ⟨_, _, rfl, rfl, .inr ⟨x, k, o', rfl, hp', hk, rfl⟩⟩
/-- How often it is held. -/
def cntM (S : HS) (h : Int) : Int := match (whole S h).bind (pay S) with | some o => o.cn | none => 0
theorem heap_Count_ok {h : Int} (hh : Sat w₀ (HH b a top P S * F) w) (hs : HInv top S) (h0 : 0 ≤ h) (h1 : h ≤ 18446744073709551615) :
    call Try.prog fn_heap_Heap_Count #[.pointer (some ⟨b, 0, none⟩), .int .u64 h] w fun v w' => w' = w ∧ v = .int .u32 (cntM S h) := by
  apply heap_Heap_Count_call
  unfold heap_Heap_Count
  refine call_mono (hwhole_ok hh hs h0 h1) ?_
  rintro _ w1 ⟨rfl, ⟨hw, rfl⟩ | ⟨x, k, o, hw, hp, hk, rfl⟩⟩
  · exact ⟨_, _, rfl, br_false rfl ⟨rfl, by rw [cntM, hw]; rfl⟩⟩
  · obtain ⟨k', L, R, hk', h2, _⟩ := HH.at hh hs.ok hp
    rw [hk] at hk'
    cases hk'
    have c0 : w1.cell? ((⟨k, 0, none⟩ : Addr).add 0) = some (.int .u32 o.cn) := obj_cell h2 (i := 0) rfl
    exact ⟨_, _, rfl, br_true rfl <| nn_ok <| ldI_ok c0 ⟨rfl, by rw [cntM, hw, Option.bind_some, hp]⟩⟩
theorem heap_Up_ok {h : Int} (hh : Sat w₀ (HH b a top P S * F) w) (hs : HInv top S) (h0 : 0 ≤ h) (h1 : h ≤ 18446744073709551615) :
    call Try.prog fn_heap_Heap_Up #[.pointer (some ⟨b, 0, none⟩), .int .u64 h] w fun v w' => v = .tuple #[.int .u32 (upM top S h).2.1, .int .i64 (upM top S h).2.2] ∧ Sat w₀ (HH b a top P (upM top S h).1 * F) w' := by
  apply heap_Heap_Up_call
  unfold heap_Heap_Up
  refine call_mono (hwhole_ok hh hs h0 h1) ?_
  rintro _ w1 ⟨rfl, ⟨hw, rfl⟩ | ⟨x, k, o, hw, hp, hk, rfl⟩⟩
  · refine ⟨_, _, rfl, br_true rfl ?_⟩
    rw [upM, hw]
    exact ⟨rfl, hh⟩
  · have hh := hh.drew
    obtain ⟨k', L, R, hk', h2, cl⟩ := HH.at hh hs.ok hp
    rw [hk] at hk'
    cases hk'
    have hr := hs.rng x o hp
    have ht := hs.tp
    have hcn := hr.cn
    have h3 : Sat w₀ (blk k (oA o L) T_heap_object * (objT o L * (R * F))) w1.drew := h2.perm (by rw [objH]; ac_rfl)
    have c0 := cell_blk h3 (i := 0) (v := .int .u32 o.cn) rfl
    rw [upM, hw]
    simp only [hp]
    refine ⟨_, _, rfl, br_false rfl <| nn_ok <| ldI_ok c0 <| nn_ok <| ldI_ok (HH.c0 hh) <| br_split (fun he => ?_) (fun hne => ?_)⟩
    · have he : o.cn = top := by simpa using he
      rw [if_pos he]
      exact ⟨rfl, hh⟩
    · have hne : o.cn ≠ top := by simpa using hne
      rw [if_neg hne]
      refine nn_ok <| ldI_ok c0 <| arith_u32 (by omega) (by omega) <| nn_ok <| st_ok (i := 0) h3 (by simp [oA]) fun w2 h4 => ?_
      have h4 : Sat w₀ (blk k (oA { o with cn := o.cn + 1 } L) T_heap_object * (objT o L * (R * F))) w2 := h4
      exact nn_ok <| ldI_ok (cell_blk h4 (i := 0) rfl) ⟨rfl, cl { o with cn := o.cn + 1 } L F w2 (h4.perm (by rw [objH]; show _ = blk k _ _ * objT o L * _; ac_rfl))⟩
end
end Go.Proofs.Ytgchemgnmijpdaa
