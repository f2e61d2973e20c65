/- ArenaStale: the walk. No conditions. -/
import Derived.Test.YtifcjbgkcgbefaaA4
set_option linter.unusedVariables false
set_option linter.unusedSimpArgs false
namespace Go.Proofs.Ytifcjbgkcgbefaa
open Go.Sp Go.RowKit

/-! ### a list that loses one, the last one stepping in -/
def Inj (L : List Int) : Prop := ∀ (j k : Nat) h, L[j]? = some h → L[k]? = some h → j = k
theorem Inj.append {L : List Int} {h : Int} (hL : Inj L) (hn : h ∉ L) : Inj (L ++ [h]) := by
  intro j k x hj hk
  rw [List.getElem?_append] at hj hk
  split at hj <;> split at hk
  · exact hL j k x hj hk
  · have := (List.getElem?_eq_some_iff.1 hk).1
    have e : k - L.length = 0 := by simp at this; omega
    rw [e] at hk
    simp at hk
    subst hk
    exact absurd (List.mem_of_getElem? hj) hn
  · have := (List.getElem?_eq_some_iff.1 hj).1
    have e : j - L.length = 0 := by simp at this; omega
    rw [e] at hj
    simp at hj
    subst hj
    exact absurd (List.mem_of_getElem? hk) hn
  · have h1 := (List.getElem?_eq_some_iff.1 hk).1
    have h2 := (List.getElem?_eq_some_iff.1 hj).1
    simp at h1 h2
    omega
theorem cut_get {L : List Int} {k : Nat} {z : Int} {j : Nat} (hk : k < L.length) : ((L.set k z).take (L.length - 1))[j]? = if j < L.length - 1 then (if j = k then some z else L[j]?) else none := by
  rw [List.getElem?_take]
  split
  · rw [List.getElem?_set]
    by_cases e : k = j
    · rw [if_pos e, if_pos hk, if_pos e.symm]
    · rw [if_neg e, if_neg (fun h => e h.symm)]
  · rfl
theorem Inj.cut {L : List Int} {k : Nat} {z g : Int} (hL : Inj L) (hg : L[k]? = some g) (hz : L[L.length - 1]? = some z) : Inj ((L.set k z).take (L.length - 1)) ∧ ∀ h, h ∈ (L.set k z).take (L.length - 1) ↔ h ∈ L ∧ h ≠ g := by
  have hk := (List.getElem?_eq_some_iff.1 hg).1
  constructor
  · intro i j x hi hj
    rw [cut_get hk] at hi hj
    split at hi <;> try cases hi
    split at hj <;> try cases hj
    split at hi <;> split at hj
    · omega
    · cases hi
      have := hL _ _ _ hz hj
      omega
    · cases hj
      have := hL _ _ _ hz hi
      omega
    · exact hL _ _ _ hi hj
  · intro h
    constructor
    · intro hm
      obtain ⟨j, hj⟩ := List.mem_iff_getElem?.1 hm
      rw [cut_get hk] at hj
      split at hj <;> try cases hj
      split at hj
      · cases hj
        refine ⟨List.mem_of_getElem? hz, fun e => ?_⟩
        rw [e] at hz
        have := hL _ _ _ hz hg
        omega
      · refine ⟨List.mem_of_getElem? hj, fun e => ?_⟩
        rw [e] at hj
        exact absurd (hL _ _ _ hj hg) (by omega)
    · rintro ⟨hm, hne⟩
      obtain ⟨j, hj⟩ := List.mem_iff_getElem?.1 hm
      have hjl := (List.getElem?_eq_some_iff.1 hj).1
      have hjk : j ≠ k := fun e => by
        rw [e, hg] at hj
        cases hj
        exact hne rfl
      by_cases e : j = L.length - 1
      · rw [e, hz] at hj
        cases hj
        refine List.mem_iff_getElem?.2 ⟨k, ?_⟩
        rw [cut_get hk, if_pos (by omega), if_pos rfl]
      · refine List.mem_iff_getElem?.2 ⟨j, ?_⟩
        rw [cut_get hk, if_pos (by omega), if_neg hjk]
        exact hj

/-! ### handles that live, and that are gone -/
def Taken (s : AS) (h : Int) : Prop := ∃ (i : Nat) (y : Spot), s.sp[i]? = some y ∧ y.st = 1 ∧ h = hd i y.g
theorem find_taken {s : AS} (hs : AOk s) {h : Int} : (∃ i, find s h = some i) ↔ Taken s h := by
  constructor
  · rintro ⟨i, hi⟩
    obtain ⟨y, h1, h2, h3⟩ := (find_iff hs).1 hi
    exact ⟨i, y, h1, h2, h3⟩
  · rintro ⟨i, y, h1, h2, h3⟩
    exact ⟨i, (find_iff hs).2 ⟨y, h1, h2, h3⟩⟩
theorem AOk.lt {s : AS} (hs : AOk s) {i : Nat} {y : Spot} (hy : s.sp[i]? = some y) : i < 65536 ∧ i < s.sp.length := by
  have := (List.getElem?_eq_some_iff.1 hy).1
  have := hs.len
  have := hs.most1
  omega
theorem Taken.put {s : AS} (hs : AOk s) {x h : Int} : Taken (put s x).1 h ↔ Taken s h ∨ ((put s x).2.2 = 0 ∧ h = (put s x).2.1) := by
  rcases put_cases hs x with ⟨fr, j, z, hfr, hz, hst, hput⟩ | ⟨hfr, hfull, hput⟩ | ⟨hfr, hfull, hput⟩
  · rw [hput]
    have hj := (hs.lt hz).2
    constructor
    · rintro ⟨i, y, hy, h1, rfl⟩
      rcases set_get hy with ⟨rfl, rfl⟩ | ⟨_, hy⟩
      · exact .inr ⟨rfl, rfl⟩
      · exact .inl ⟨i, y, hy, h1, rfl⟩
    · rintro (⟨i, y, hy, h1, rfl⟩ | ⟨_, rfl⟩)
      · have : j ≠ i := fun e => by
          rw [e, hy] at hz
          cases hz
          omega
        exact ⟨i, y, by simp [List.getElem?_set, this, hy], h1, rfl⟩
      · exact ⟨j, ⟨x, z.g, 1⟩, by simp [hj], rfl, rfl⟩
  · rw [hput]
    simp
  · rw [hput]
    constructor
    · rintro ⟨i, y, hy, h1, rfl⟩
      dsimp only at hy
      by_cases hi : i < s.sp.length
      · rw [List.getElem?_append_left hi] at hy
        exact .inl ⟨i, y, hy, h1, rfl⟩
      · have e : i = s.sp.length := by
          have := (List.getElem?_eq_some_iff.1 hy).1
          simp at this
          omega
        subst e
        simp at hy
        subst hy
        exact .inr ⟨rfl, rfl⟩
    · rintro (⟨i, y, hy, h1, rfl⟩ | ⟨_, rfl⟩)
      · exact ⟨i, y, by rw [List.getElem?_append_left (hs.lt hy).2]; exact hy, h1, rfl⟩
      · exact ⟨s.sp.length, ⟨x, s.first, 1⟩, by simp, rfl, rfl⟩
theorem Taken.new {s : AS} (hs : AOk s) {x : Int} (he : (Go.Proofs.Ytifcjbgkcgbefaa.put s x).2.2 = 0) : ¬ Taken s (Go.Proofs.Ytifcjbgkcgbefaa.put s x).2.1 := by
  rintro ⟨i, y, hy, h1, e⟩
  have hi := hs.lt hy
  have hl := hs.len
  have hm := hs.most1
  rcases put_cases hs x with ⟨fr, j, z, hfr, hz, hst, hput⟩ | ⟨hfr, hfull, hput⟩ | ⟨hfr, hfull, hput⟩
  · rw [hput] at e
    have hj := hs.lt hz
    obtain ⟨rfl, _⟩ := hd_inj (by omega) (by omega) e
    rw [hy] at hz
    cases hz
    omega
  · rw [hput] at he; cases he
  · rw [hput] at e
    obtain ⟨e, _⟩ := hd_inj (by omega) (by omega) e
    omega
theorem Taken.drop {s : AS} (hs : AOk s) {i : Nat} {y : Spot} (hy : s.sp[i]? = some y) (h1 : y.st = 1) {h : Int} : Taken (dropS s i) h ↔ Taken s h ∧ h ≠ hd i y.g := by
  have hi := hs.lt hy
  have key : ∀ {y' : Spot}, y'.st ≠ 1 → ∀ {fr cnt}, (Taken ⟨s.most, s.first, s.sp.set i y', fr, cnt⟩ h ↔ Taken s h ∧ h ≠ hd i y.g) := by
    intro y' hne fr cnt
    constructor
    · rintro ⟨j, z, hz, h2, rfl⟩
      rcases set_get hz with ⟨rfl, rfl⟩ | ⟨hji, hz⟩
      · exact absurd h2 hne
      · refine ⟨⟨j, z, hz, h2, rfl⟩, fun e => ?_⟩
        have hj := hs.lt hz
        exact hji (hd_inj (by omega) (by omega) e).1
    · rintro ⟨⟨j, z, hz, h2, rfl⟩, hn⟩
      have : i ≠ j := fun e => by
        subst e
        rw [hy] at hz
        cases hz
        exact hn rfl
      exact ⟨j, z, by simp [List.getElem?_set, this, hz], h2, rfl⟩
  rcases drop_cases hy with ⟨_, hd⟩ | ⟨_, hd⟩
  · rw [hd]; exact key (by show (0 : Int) ≠ 1; decide)
  · rw [hd]; exact key (by show (2 : Int) ≠ 1; decide)
def Gone (s : AS) (h : Int) : Prop := ∃ (i : Nat) (g : Int) (y : Spot), h = hd i g ∧ s.sp[i]? = some y ∧ 0 ≤ g ∧ g ≤ y.g ∧ (g = y.g → y.st = 2)
theorem Gone.range {s : AS} {h : Int} (hs : AOk s) (hw : Gone s h) : 0 ≤ h ∧ h ≤ 18446744073709551615 := by
  obtain ⟨i, g, y, rfl, hy, h0, h1, _⟩ := hw
  have hi := hs.lt hy
  have hg := hs.g y (List.mem_of_getElem? hy)
  exact hd_range (by omega) h0 (by omega)
theorem Gone.find {s : AS} {h : Int} (hs : AOk s) (hw : Gone s h) : Go.Proofs.Ytifcjbgkcgbefaa.find s h = none := by
  obtain ⟨i, g, y, rfl, hy, h0, h1, h2⟩ := hw
  cases hf : Go.Proofs.Ytifcjbgkcgbefaa.find s (hd i g) with
  | none => rfl
  | some j =>
    obtain ⟨z, hz, h3, e⟩ := (find_iff hs).1 hf
    have hi := hs.lt hy
    have hj := hs.lt hz
    obtain ⟨rfl, rfl⟩ := hd_inj (by omega) (by omega) e
    rw [hy] at hz
    cases hz
    have := h2 rfl
    omega
theorem Gone.put {s : AS} {h x : Int} (hs : AOk s) (hw : Gone s h) : Gone (put s x).1 h := by
  obtain ⟨i, g, y, rfl, hy, h0, h1, h2⟩ := hw
  rcases put_cases hs x with ⟨fr, j, z, hfr, hz, hst, hput⟩ | ⟨hfr, hfull, hput⟩ | ⟨hfr, hfull, hput⟩
  · rw [hput]
    by_cases e : j = i
    · subst e
      rw [hy] at hz
      cases hz
      exact ⟨j, g, ⟨x, y.g, 1⟩, rfl, by simp [(hs.lt hy).2], h0, h1, fun e => by have := h2 e; omega⟩
    · exact ⟨i, g, y, rfl, by simp [List.getElem?_set, e, hy], h0, h1, h2⟩
  · rw [hput]; exact ⟨i, g, y, rfl, hy, h0, h1, h2⟩
  · rw [hput]; exact ⟨i, g, y, rfl, by rw [List.getElem?_append_left (hs.lt hy).2]; exact hy, h0, h1, h2⟩
theorem Gone.drop {s : AS} {h : Int} {i : Nat} {y : Spot} (hs : AOk s) (hy : s.sp[i]? = some y) (h1 : y.st = 1) (hw : Gone s h ∨ h = hd i y.g) : Gone (dropS s i) h := by
  have hi := (hs.lt hy).2
  have hg := hs.g y (List.mem_of_getElem? hy)
  rcases hw with ⟨j, g, z, rfl, hz, h2, h3, h4⟩ | rfl
  · by_cases e : i = j
    · subst e
      rw [hy] at hz
      cases hz
      have hlt : g ≠ y.g := fun e => by have := h4 e; omega
      rcases drop_cases hy with ⟨_, hd⟩ | ⟨_, hd⟩
      · rw [hd]
        exact ⟨i, g, ⟨0, y.g + 1, 0⟩, rfl, by simp [hi], h2, by show g ≤ y.g + 1; omega, fun e => by have e : g = y.g + 1 := e; omega⟩
      · rw [hd]
        exact ⟨i, g, ⟨0, y.g, 2⟩, rfl, by simp [hi], h2, h3, fun _ => rfl⟩
    · rcases drop_cases hy with ⟨_, hd⟩ | ⟨_, hd⟩ <;> rw [hd] <;> exact ⟨j, g, z, rfl, by simp [List.getElem?_set, e, hz], h2, h3, h4⟩
  · rcases drop_cases hy with ⟨_, hd⟩ | ⟨_, hd⟩
    · rw [hd]
      exact ⟨i, y.g, ⟨0, y.g + 1, 0⟩, rfl, by simp [hi], by omega, by show y.g ≤ y.g + 1; omega, fun e => by have e : y.g = y.g + 1 := e; omega⟩
    · rw [hd]
      exact ⟨i, y.g, ⟨0, y.g, 2⟩, rfl, by simp [hi], by omega, Int.le_refl _, fun _ => rfl⟩

structure StaleI (s : AS) (live gone : List Int) : Prop where
  ok : AOk s
  inj : Inj live
  mem : ∀ h, h ∈ live ↔ Taken s h
  cnt : s.cnt = live.length
  gone : ∀ h ∈ gone, Gone s h
theorem put_cnt {s : AS} (hs : AOk s) (x : Int) : (put s x).1.cnt = if (put s x).2.2 = 0 then s.cnt + 1 else s.cnt := by
  rcases put_cases hs x with ⟨fr, j, z, hfr, hz, hst, hput⟩ | ⟨hfr, hfull, hput⟩ | ⟨hfr, hfull, hput⟩ <;> rw [hput] <;> simp
theorem StaleI.put {s : AS} {live gone : List Int} (h : StaleI s live gone) (x : Int) : StaleI (put s x).1 (if (put s x).2.2 = 0 then live ++ [(put s x).2.1] else live) gone := by
  have hc := put_cnt h.ok x
  by_cases he : (Go.Proofs.Ytifcjbgkcgbefaa.put s x).2.2 = 0
  · rw [if_pos he] at hc ⊢
    refine ⟨h.ok.put x, h.inj.append fun hm => Taken.new h.ok he ((h.mem _).1 hm), fun g => ?_, by rw [hc, h.cnt]; simp, fun g hg => (h.gone g hg).put h.ok⟩
    rw [Taken.put h.ok, List.mem_append, h.mem, List.mem_singleton]
    simp [he]
  · rw [if_neg he] at hc ⊢
    refine ⟨h.ok.put x, h.inj, fun g => ?_, by rw [hc, h.cnt], fun g hg => (h.gone g hg).put h.ok⟩
    rw [Taken.put h.ok, h.mem]
    simp [he]
theorem StaleI.drop {s : AS} {live gone : List Int} (h : StaleI s live gone) {k : Nat} {g z : Int} (hg : live[k]? = some g) (hz : live[live.length - 1]? = some z) :
    0 ≤ g ∧ g ≤ 18446744073709551615 ∧ (dropR s g).2.2 = 0 ∧ StaleI (dropR s g).1 ((live.set k z).take (live.length - 1)) (gone ++ [g]) := by
  obtain ⟨i, y, hy, h1, rfl⟩ := (h.mem g).1 (List.mem_of_getElem? hg)
  have hi := h.ok.lt hy
  have hgy := h.ok.g y (List.mem_of_getElem? hy)
  have hr := hd_range (i := i) (g := y.g) (by omega) (by omega) (by omega)
  have hf : find s (hd i y.g) = some i := (find_iff h.ok).2 ⟨y, hy, h1, rfl⟩
  obtain ⟨c1, c2⟩ := h.inj.cut hg hz
  have hk := (List.getElem?_eq_some_iff.1 hg).1
  refine ⟨hr.1, hr.2, ?_⟩
  rw [dropR_some hf hy]
  refine ⟨rfl, h.ok.drop hy h1, c1, fun x => ?_, ?_, fun x hx => ?_⟩
  · rw [c2, h.mem, Taken.drop h.ok hy h1]
  · have := h.cnt
    rw [List.length_take, List.length_set]
    rcases drop_cases hy with ⟨_, hd⟩ | ⟨_, hd⟩ <;> rw [hd] <;> dsimp only <;> omega
  · rcases List.mem_append.1 hx with hx | hx
    · exact (Or.inl (h.gone x hx) : _ ∨ _) |> Gone.drop h.ok hy h1
    · rw [List.mem_singleton] at hx
      exact Gone.drop h.ok hy h1 (.inr hx)

theorem ArenaStale_walk {W : World} {p : Option Addr} {l c : Nat} {xs : List ActD} {most raw : Int} (hx : Acts W p l xs) (hl : l ≤ 9223372036854775807) (hm : -9223372036854775808 ≤ most ∧ most ≤ 9223372036854775807) (hraw : 0 ≤ raw ∧ raw ≤ 18446744073709551615) :
    call Try.prog fn_tenonlaw02_ArenaStale #[.int .i64 most, .slice p l c, .int .u64 raw] W fun v w' => v = .bool true ∧ Below W.heap.size W w' := by
  apply tenonlaw02_ArenaStale_call
  unfold tenonlaw02_ArenaStale
  obtain ⟨k, hp, hk0, hk1, _⟩ := tenonref01_Pick_ok most 9 hm.1 hm.2 (by omega) (by omega)
  have hk1 := hk1 (by omega)
  refine call_pure hp <| asI_ok <| arith_i64 (by omega) (by omega) <| call_mono (arena_New_ok (Sat.start W) (by omega) (by omega) (by omega)) ?_
  rintro _ w1 ⟨a, rfl, h1⟩
  have k1 := AOk.start (most := 1 + k) (first := 1) (by omega) (by omega) (by omega) (by omega)
  refine ⟨_, _, rfl, br_false rfl ⟨fun q m d q' m' d' w => ∃ (s : AS) (gs os : List Int), gs.length ≤ 100 ∧ os.length ≤ 100 ∧ StaleI s gs os ∧ Sat W (Ar a s * (tab T_uint64 1 fU64 q m d gs * (tab T_uint64 1 fU64 q' m' d' os * old W))) w, ?_, ?_⟩⟩
  · refine ⟨fun q m d q' m' d' i w n => ∃ (s : AS) (gs os : List Int), 0 ≤ i ∧ i ≤ 100 ∧ n = 100 - i.toNat ∧ gs.length ≤ i ∧ os.length ≤ i ∧ StaleI s gs os ∧ Sat W (Ar a s * (tab T_uint64 1 fU64 q m d gs * (tab T_uint64 1 fU64 q' m' d' os * old W))) w,
      ⟨_, _, [], [], by omega, by omega, rfl, by simp, by simp, ⟨k1, fun j k h hj => by simp at hj, fun h => ⟨fun hm => by simp at hm, fun ⟨i, y, hy, _⟩ => by simp at hy⟩, rfl, by simp⟩, (tab_nil T_uint64 1 fU64 (tab_nil T_uint64 1 fU64 h1)).perm (by ac_rfl)⟩, ?_⟩
    rintro u q m d q' m' d' i w3 n ⟨s, gs, os, h0, hi, rfl, hgl, hol, hs, h3⟩
    have hml := tab_len fU64_len (by decide) h3.right.left
    have hml' := tab_len fU64_len (by decide) h3.right.right.left
    refine br_dec (fun hlt => br_dec (fun hlt2 => ?_) (fun _ => ⟨s, gs, os, by omega, by omega, hs, h3⟩)) (fun _ => ⟨s, gs, os, by omega, by omega, hs, h3⟩)
    refine hx.idx h3.right.right.right h0 hlt fun a0 x hxa ha => ldI_ok ha.c0 ?_
    obtain ⟨k2, hp2, hk20, hk21, _⟩ := tenonref01_Pick_ok x.kind 2 ha.k0.1 ha.k0.2 (by omega) (by omega)
    refine call_pure hp2 <| asI_ok <| br_split (fun he => ?_) (fun hne => ?_)
    · refine call_mono (arena_Put_ok (x := i) h3 hs.ok) ?_
      rintro _ w4 ⟨rfl, h4⟩
      have hs4 := hs.put i
      refine ⟨_, _, rfl, br_split (fun he0 => ?_) (fun hne0 => ?_)⟩
      · have he0 : (put s i).2.2 = 0 := by simpa using he0
        rw [if_pos he0] at hs4
        refine new_ok h4 fun k w6 h6 => tab_app u64sTy fU64_len (by decide) fU64_one (x := (put s i).2.1) (h6.perm (B := _ * (tab T_uint64 1 fU64 q m d gs * (Ar a (put s i).1 * (tab T_uint64 1 fU64 q' m' d' os * old W)))) (by ac_rfl)) rfl (by simp only [maxLen]; omega) (by omega) fun p' c' w7 h7 => ?_
        exact arith_i64 (by omega) (by omega) ⟨_, by omega, (put s i).1, gs ++ [(put s i).2.1], os, by omega, by omega, rfl, by simp; omega, by omega, hs4, h7.p1⟩
      · have hne0 : (put s i).2.2 ≠ 0 := by simpa using hne0
        rw [if_neg hne0] at hs4
        exact arith_i64 (by omega) (by omega) ⟨_, by omega, (put s i).1, gs, os, by omega, by omega, rfl, by omega, by omega, hs4, h4⟩
    · refine br_dec (fun hgt => ?_) (fun hle => arith_i64 (by omega) (by omega) ⟨_, by omega, s, gs, os, by omega, by omega, rfl, by omega, by omega, hs, h3⟩)
      refine hx.idx' h3.right.right.right h0 hlt hxa fun a0 ha => ldI_ok ha.c1 ?_
      obtain ⟨k3, hp3, hk30, hk31, _⟩ := tenonref01_Pick_ok x.at_ m ha.k1.1 ha.k1.2 (by omega) (by omega)
      have hk31 := hk31 (by omega)
      obtain ⟨y, hy⟩ : ∃ y, gs[k3.toNat]? = some y := ⟨gs[k3.toNat]'(by omega), by simp⟩
      obtain ⟨z, hz⟩ : ∃ z, gs[gs.length - 1]? = some z := ⟨gs[gs.length - 1]'(by omega), by simp⟩
      obtain ⟨t0, t1, t2, t3⟩ := hs.drop hy hz
      refine call_pure hp3 <| asI_ok <| tab_idx fU64_len h3.right.left (by decide) hk30 hy fun g hg => ldI_ok (tab_cell fU64_len (j := 0) h3.right.left hg hy (by decide) rfl) <| call_mono (arena_Drop_ok h3 hs.ok t0 t1) ?_
      rintro _ w4 ⟨rfl, h4⟩
      refine ⟨_, _, rfl, br_false (by simp [t2]) <| tab_idx fU64_len h4.right.left (by decide) hk30 hy fun g hg => ldI_ok (tab_cell fU64_len (j := 0) h4.right.left hg hy (by decide) rfl) <| new_ok h4 fun b w5 h5 => ?_⟩
      refine tab_app u64sTy fU64_len (by decide) fU64_one (x := y) (h5.perm (B := _ * (tab T_uint64 1 fU64 q' m' d' os * (tab T_uint64 1 fU64 q m d gs * (Ar a (dropR s y).1 * old W)))) (by ac_rfl)) rfl (by simp only [maxLen]; omega) (by omega) fun p' c' w6 h6 => ?_
      have hz' : gs[((m : Int) - 1).toNat]? = some z := by rw [show ((m : Int) - 1).toNat = gs.length - 1 by omega]; exact hz
      refine arith_i64 (by omega) (by omega) <| tab_idx fU64_len h6.right.left (by decide) (by omega) hz' fun g2 hg2 => ldI_ok (tab_cell fU64_len (j := 0) h6.right.left hg2 hz' (by decide) rfl) ?_
      refine tab_idx fU64_len h6.right.left (by decide) hk30 hy fun g3 hg3 => tab_st fU64_len (j := 0) (y' := z) h6.p1 hg3 hy (by decide) rfl fun w7 h7 => ?_
      refine arith_i64 (by omega) (by omega) <| slc_own (h7 : Sat W (own T_uint64 1 q m d _ * _) w7) (by omega) (by omega) ?_
      have h8 := tab_cut fU64_len (n := gs.length - 1) h7 (by omega)
      rw [show ((m : Int) - 1).toNat = gs.length - 1 by omega]
      exact arith_i64 (by omega) (by omega) ⟨_, by omega, (dropR s y).1, _, os ++ [y], by omega, by omega, rfl, by simp; omega, by simp; omega, t3, h8.perm (by ac_rfl)⟩
  · rintro u q m d q' m' d' w3 ⟨s, gs, os, hgl, hol, hs, h3⟩
    have hml := tab_len fU64_len (by decide) h3.right.left
    have hml' := tab_len fU64_len (by decide) h3.right.right.left
    refine ⟨fun i w n => 0 ≤ i ∧ i ≤ m' ∧ n = m' - i.toNat ∧ Sat W (Ar a s * (tab T_uint64 1 fU64 q m d gs * (tab T_uint64 1 fU64 q' m' d' os * old W))) w, ⟨_, by omega, by omega, rfl, h3⟩, ?_⟩
    rintro u i w4 n ⟨h0, hi, rfl, h4⟩
    refine br_dec (fun hlt => ?_) (fun hge => ?_)
    · obtain ⟨y, hy⟩ : ∃ y, os[i.toNat]? = some y := ⟨os[i.toNat]'(by omega), by simp⟩
      have hgo := hs.gone y (List.mem_of_getElem? hy)
      have hr := hgo.range hs.ok
      have hf := hgo.find hs.ok
      refine tab_idx fU64_len h4.right.right.left (by decide) h0 hy fun g hg => ldI_ok (tab_cell fU64_len (j := 0) h4.right.right.left hg hy (by decide) rfl) <| call_mono (arena_Get_ok h4 hr.1 hr.2) ?_
      rw [hf, Option.bind_none]
      rintro _ w5 ⟨rfl, rfl⟩
      refine ⟨_, _, rfl, br_false rfl <| tab_idx fU64_len h4.right.right.left (by decide) h0 hy fun g hg => ldI_ok (tab_cell fU64_len (j := 0) h4.right.right.left hg hy (by decide) rfl) <| call_mono (arena_Set_ok (x := 1) h4 hs.ok hr.1 hr.2) ?_⟩
      rw [setR_none hf]
      rintro _ w6 ⟨rfl, h6⟩
      exact asI_ok <| br_false rfl <| arith_i64 (by omega) (by omega) ⟨_, by omega, by omega, by omega, rfl, h6⟩
    · refine ⟨fun b i w n => 0 ≤ i ∧ i ≤ m ∧ n = m - i.toNat ∧ b = (gs.take i.toNat).contains raw ∧ Sat W (Ar a s * (tab T_uint64 1 fU64 q m d gs * (tab T_uint64 1 fU64 q' m' d' os * old W))) w, ⟨_, by omega, by omega, rfl, by simp, h4⟩, ?_⟩
      rintro u b i w5 n ⟨h0, hi, rfl, rfl, h5⟩
      have e2 : i + 1 = ((i.toNat + 1 : Nat) : Int) := by omega
      refine br_dec (fun hlt => br_split (fun hb => ?_) (fun hb => ?_)) (fun hge => ?_)
      · refine arith_i64 (by omega) (by omega) ⟨_, by omega, by omega, by omega, rfl, ?_, h5⟩
        rw [e2, Int.toNat_natCast, List.take_add_one]
        simp at hb ⊢
        simp [hb]
      · obtain ⟨y, hy⟩ : ∃ y, gs[i.toNat]? = some y := ⟨gs[i.toNat]'(by omega), by simp⟩
        refine tab_idx fU64_len h5.right.left (by decide) h0 hy fun g hg => ldI_ok (tab_cell fU64_len (j := 0) h5.right.left hg hy (by decide) rfl) <| arith_i64 (by omega) (by omega) ⟨_, by omega, by omega, by omega, rfl, ?_, h5⟩
        rw [e2, Int.toNat_natCast, List.take_add_one, hy]
        simp at hb ⊢
        rw [Bool.eq_iff_iff]
        simp [hb]
        exact ⟨fun e => e.symm, fun e => e.symm⟩
      · rw [List.take_of_length_le (by omega)]
        refine call_mono (arena_Get_ok h5 hraw.1 hraw.2) ?_
        have hmem := (hs.mem raw).trans (find_taken hs.ok).symm
        have fin : ∀ w, w = w5 → call Try.prog fn_arena_Arena_Len #[.pointer (some ⟨a, 0, none⟩)] w fun v85 w19 => asI .i64 v85 fun n86 => br ((n86 : Int) == (m : Int)) (call Try.prog fn_tenonlaw02_awake #[] w19 fun v87 w20 => asB v87 fun b88 => (Value.bool b88) = .bool true ∧ Below W.heap.size W w20) ((Value.bool false) = .bool true ∧ Below W.heap.size W w19) := by
          rintro w rfl
          refine call_mono (arena_Len_ok h5) ?_
          rintro _ w9 ⟨rfl, rfl⟩
          have hcn := hs.cnt
          refine asI_ok <| br_true (by simp; omega) <| call_mono (tenonlaw02_awake_ok h5) ?_
          rintro _ w2 ⟨rfl, h2⟩
          exact asB_ok ⟨rfl, h2.right.right.right.below'⟩
        cases hf : find s raw with
        | none =>
          rw [Option.bind_none]
          rintro _ w6 ⟨rfl, rfl⟩
          have hn : raw ∉ gs := fun hm => by
            obtain ⟨i, hi⟩ := hmem.1 hm
            rw [hf] at hi
            cases hi
          exact ⟨_, _, rfl, br_true (by simp [hn]) (fin _ rfl)⟩
        | some i =>
          obtain ⟨y, hy, _⟩ := (find_iff hs.ok).1 hf
          rw [Option.bind_some, hy]
          rintro _ w6 ⟨rfl, rfl⟩
          have hn : raw ∈ gs := hmem.2 ⟨i, hf⟩
          exact ⟨_, _, rfl, br_true (by simp [hn]) (fin _ rfl)⟩
theorem ArenaStale_row {W : World} {v : Value} {most raw : Int} (hm : IntKind.i64.min ≤ most ∧ most ≤ IntKind.i64.max) (h : ∃ p l c xs, v = .slice p l c ∧ l ≤ 9223372036854775807 ∧ Acts W p l xs) (hr : IntKind.u64.min ≤ raw ∧ raw ≤ IntKind.u64.max) :
    call Try.prog fn_tenonlaw02_ArenaStale #[.int .i64 most, v, .int .u64 raw] W fun v w' => v = .bool true ∧ Below W.heap.size W w' := by
  simp [IntKind.min, IntKind.max, IntKind.signed, IntKind.bits] at hm hr
  obtain ⟨p, l, c, xs, rfl, hl, hx⟩ := h
  exact ArenaStale_walk hx hl hm hr
end Go.Proofs.Ytifcjbgkcgbefaa
