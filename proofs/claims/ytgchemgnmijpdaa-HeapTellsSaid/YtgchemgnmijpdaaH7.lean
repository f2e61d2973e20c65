/- Contracts of layer 11 (heap): removing; values. No conditions. -/
import Derived.Test.YtgchemgnmijpdaaH6
set_option linter.unusedVariables false
set_option linter.unusedSimpArgs false
set_option maxRecDepth 100000
namespace Go.Proofs.Ytgchemgnmijpdaa
open Go.Sp Go.RowKit

theorem u64L_flat (l : List Int) : l.flatMap fU64 = u64L l := flatU64 l
theorem skeys : KeyTy Try.prog T_map_uint64_struct T_uint64 128 (fun x : Int => Value.int .u64 x) (fun _ => True) := keyInt (by kernel_rfl) (by kernel_rfl)
theorem szero (w : World) : (zeroValue 128).run Try.prog w = .ok (.agg #[]) w := by kernel_rfl
def seenH (r : Nat) (f : Int → Option Unit) : HP := mapH (fun x : Int => Value.int .u64 x) (fun _ : Unit => Value.agg #[]) (fun _ => True) r f
section
variable {w₀ w : World} {F : HP} {b a : Nat} {top : Int} {P : PM} {S : HS}
theorem slices_Clone_ok {p : Option Addr} {c : Nat} {l : List Int} (h : Sat w₀ F w) (hx : Gives F 1 p l.length (u64L l)) (hl : l.length ≤ 1000000) :
    call Try.prog fn_slices_Clone #[.slice p l.length c] w fun v w' => ∃ q d, v = .slice q l.length d ∧ Sat w₀ (tab T_uint64 1 fU64 q l.length d l * F) w' := by
  apply slices_Clone_call
  unfold slices_Clone
  refine br_split (fun hn => ?_) (fun hn => ?_)
  · have hp : p = none := by cases p with | none => rfl | some a => simp at hn
    have h0 : l = [] := by
      apply List.eq_nil_of_length_eq_zero
      rcases Nat.eq_zero_or_pos l.length with h0 | h0
      · exact h0
      · obtain ⟨a, e⟩ := (hx _ _ h).2.1 h0
        rw [hp] at e; cases e
    subst h0
    exact ⟨none, 0, rfl, tab_nil _ _ _ h⟩
  · refine new_ok h fun k1 w1 h1 => ?_
    have h2 := h1.own_full (t := T_uint64) (sz := 1) (n := 0) rfl (by decide)
    have hold : Rd w1 1 p l.length (u64L l) := hx _ _ h2.right
    refine app_ok u64sTy h2 hold (fun u hu => ?_) (by simp only [maxLen]; omega) (by omega) fun p' c' w' h3 => ?_
    · obtain ⟨x, _, rfl⟩ := List.mem_map.1 hu
      rfl
    · rw [Nat.zero_add]
      refine ⟨p', c', rfl, ?_⟩
      rw [Nat.zero_add] at h3
      show Sat w₀ (own T_uint64 1 p' l.length c' (l.flatMap fU64) * F) w'
      rw [u64L_flat]
      exact h3
theorem u64_at {p : Option Addr} {l : List Int} {i : Nat} {x : Int} {a : Addr} (h : Rd w 1 p l.length (u64L l)) (ha : p = some a) (hx : l[i]? = some x) : w.cell? (a.add (i * 1)) = some (.int .u64 x) := by
  rw [Nat.mul_one]
  exact h.get ha (by rw [u64L, List.getElem?_map, hx]; rfl)
theorem heap_Remove_ok {p : Option Addr} {c : Nat} {l : List Int} (hh : Sat w₀ (HH b a top P S * F) w) (hs : HInv top S) (gx : Gives F 1 p l.length (u64L l)) (hl : l.length ≤ 1000) (hr : ∀ x ∈ l, 0 ≤ x ∧ x ≤ 18446744073709551615) :
    call Try.prog fn_heap_Heap_Remove #[.pointer (some ⟨b, 0, none⟩), .slice p l.length c] w (Outc w₀ F b a top (remM S l)) := by
  apply heap_Heap_Remove_call
  unfold heap_Heap_Remove
  refine newM_ok (fun x : Int => Value.int .u64 x) (fun _ : Unit => Value.agg #[]) (fun _ => True) hh fun k1 w1 h1 => ?_
  have h1 : Sat w₀ (seenH k1 (fun _ => none) * (HH b a top P S * F)) w1 := h1
  have bad : ∀ {e : Int} {w : World} {X : HP}, e ≠ 0 → Sat w₀ (X * (HH b a top P S * F)) w → Outc w₀ F b a top (e, S, [], []) (mk3 e none 0 0 none 0 0) w := fun he h => .inl ⟨he, rfl, P, h.right⟩
  -- all of them are
  refine ⟨fun n w m => 0 ≤ n ∧ n ≤ l.length ∧ m = l.length - n.toNat ∧ (∀ x ∈ l.take n.toNat, ∃ o, pay S x = some o) ∧ Sat w₀ (seenH k1 (fun _ => none) * (HH b a top P S * F)) w, ⟨_, by omega, by omega, rfl, by simp, h1⟩, ?_⟩
  rintro u n w2 m ⟨n0, nl, rfl, hall, h2⟩
  refine br_dec (fun hlt => ?_) (fun hge => ?_)
  · have hi : n.toNat < l.length := by omega
    obtain ⟨x, hx⟩ : ∃ x, l[n.toNat]? = some x := ⟨_, List.getElem?_eq_getElem hi⟩
    have hxm := List.mem_of_getElem? hx
    have hrx := hr x hxm
    have rd := gx _ _ h2.right.right
    have hh2 := h2.perm (B := HH b a top P S * (seenH k1 (fun _ => none) * F)) (by ac_rfl)
    refine idx_ok rd n0 (by omega) fun ad had => ldI_ok (n := x) (u64_at rd had hx) <| call_mono (hfind_ok hh2 hs.ok hrx.1 hrx.2) ?_
    rintro _ w3 ⟨rfl, ⟨hp, rfl⟩ | ⟨k, o, hp, hk, rfl⟩⟩
    · have e : remM S l = (2, S, [], []) := by
        rw [remM, if_pos]
        rw [List.any_eq_true]
        exact ⟨x, hxm, by rw [hp]; rfl⟩
      rw [e]
      exact ⟨_, _, rfl, br_true rfl (bad (by decide) h2)⟩
    · refine ⟨_, _, rfl, br_false rfl <| arith_i64 (by omega) (by omega) ⟨_, ?_, by omega, by omega, rfl, fun y hy => ?_, h2⟩⟩
      · omega
      · rw [show (n + 1).toNat = n.toNat + 1 by omega, List.take_add_one, hx] at hy
        rcases List.mem_append.1 hy with hy | hy
        · exact hall y hy
        · simp at hy; subst hy; exact ⟨o, hp⟩
  rw [List.take_of_length_le (by omega)] at hall
  clear hge nl n0
  have hany : ¬ l.any (fun h => (pay S h).isNone) = true := by
    rw [List.any_eq_true]
    rintro ⟨x, hx, he⟩
    obtain ⟨o, ho⟩ := hall x hx
    rw [ho] at he
    cases he
  rw [remM, if_neg hany]
  -- none is twice, none an inner
  refine ⟨fun n w m => 0 ≤ n ∧ n ≤ l.length ∧ m = l.length - n.toNat ∧ (l.take n.toNat).Nodup ∧ (∀ x ∈ l.take n.toNat, ∀ o, pay S x = some o → o.ou = 0) ∧ ∃ f, (∀ x, (f x).isSome = true ↔ x ∈ l.take n.toNat) ∧ Sat w₀ (seenH k1 f * (HH b a top P S * F)) w, ⟨_, by omega, by omega, rfl, by simp, by simp, _, by simp, h2⟩, ?_⟩
  rintro u n w4 m ⟨n0, nl, rfl, hnd, hou, f, hf, h4⟩
  refine br_dec (fun hlt => ?_) (fun hge => ?_)
  · have hi : n.toNat < l.length := by omega
    obtain ⟨x, hx⟩ : ∃ x, l[n.toNat]? = some x := ⟨_, List.getElem?_eq_getElem hi⟩
    have hxm := List.mem_of_getElem? hx
    have hrx := hr x hxm
    have rd := gx _ _ h4.right.right
    refine idx_ok rd n0 (by omega) fun ad had => ldI_ok (n := x) (u64_at rd had hx) <| look_ok (kf := fun x : Int => Value.int .u64 x) (vf := fun _ : Unit => Value.agg #[]) (S := fun _ => True) skeys (x := x) h4 trivial (szero w4) ?_
    rw [if_pos rfl]
    refine ⟨#[], (f x).isSome, by cases f x <;> rfl, new_ok h4 fun k24 w5 h5 => stA_ok h5 rfl rfl (by simp) fun w6 h6 => ?_⟩
    have h6 : Sat w₀ (blk k24 #[] 128 * (seenH k1 f * (HH b a top P S * F))) w6 := h6
    have hh6 := h6.perm (B := HH b a top P S * (blk k24 #[] 128 * (seenH k1 f * F))) (by ac_rfl)
    obtain ⟨o, hp⟩ := hall x hxm
    refine call_mono (hfind_ok hh6 hs.ok hrx.1 hrx.2) ?_
    rintro _ w7 ⟨rfl, ⟨hp', rfl⟩ | ⟨k, o', hp', hk, rfl⟩⟩
    · rw [hp] at hp'; cases hp'
    rw [hp] at hp'
    cases hp'
    obtain ⟨k', L, R, hk', h7, _⟩ := HH.at hh6 hs.ok hp
    rw [hk] at hk'
    cases hk'
    have no : (¬ l.Nodup ∨ ∃ h ∈ l, ∃ o, pay S h = some o ∧ o.ou ≠ 0) → Outc w₀ F b a top (if ¬ l.Nodup ∨ ∃ h ∈ l, ∃ o, pay S h = some o ∧ o.ou ≠ 0 then (1, S, [], []) else (0, zeroL S l, l, [])) (mk3 1 none 0 0 none 0 0) w7 := fun h => by
      rw [if_pos h]
      exact bad (X := blk k24 #[] 128 * seenH k1 f) (by decide) (h6.perm (by ac_rfl))
    have e3 : l = l.take n.toNat ++ x :: l.drop (n.toNat + 1) := by
      conv => lhs; rw [← List.take_append_drop n.toNat l, List.drop_eq_getElem_cons hi]
      rw [List.getElem?_eq_getElem hi] at hx
      rw [Option.some.inj hx]
    refine ⟨_, _, rfl, nn_ok <| ldI_ok (n := o.ou) (obj_cell h7 (i := 1) rfl) <| br_split (fun hne => no (.inr ⟨x, hxm, o, hp, by simpa using hne⟩)) (fun he => br_split (fun htw => no (.inl fun hN => ?_)) (fun hne => ?_))⟩
    · have hm := (hf x).1 htw
      rw [e3] at hN
      exact (List.nodup_append.1 hN).2.2 x hm x (.head _) rfl
    · have he : o.ou = 0 := by simpa using he
      have hnm : x ∉ l.take n.toNat := fun hm => by rw [(hf x).2 hm] at hne; cases hne
      have etk : l.take (n + 1).toNat = l.take n.toNat ++ [x] := by rw [show (n + 1).toNat = n.toNat + 1 by omega, List.take_add_one, hx]; rfl
      have h7' : Sat w₀ (seenH k1 f * (HH b a top P S * (F * blk k24 #[] 128))) _ := h6.perm (by ac_rfl)
      refine setM_ok (kf := fun x : Int => Value.int .u64 x) (vf := fun _ : Unit => Value.agg #[]) (v := ()) skeys h7' trivial fun w8 h8 => ?_
      have h8 : Sat w₀ (seenH k1 (upd f x (some ())) * (HH b a top P S * (F * blk k24 #[] 128))) w8 := h8
      have h9 : Sat w₀ (seenH k1 (upd f x (some ())) * (HH b a top P S * F)) w8 := (h8.perm (B := blk k24 #[] 128 * (seenH k1 (upd f x (some ())) * (HH b a top P S * F))) (by ac_rfl)).right
      refine arith_i64 (by omega) (by omega) ⟨_, ?_, by omega, by omega, rfl, ?_, ?_, upd f x (some ()), ?_, h9⟩
      · omega
      · rw [etk]
        refine List.nodup_append.2 ⟨hnd, by simp, fun y hy z hz e => ?_⟩
        rw [List.mem_singleton] at hz
        exact hnm (hz ▸ e ▸ hy)
      · intro y hy o' ho'
        rw [etk] at hy
        rcases List.mem_append.1 hy with hy | hy
        · exact hou y hy o' ho'
        · rw [List.mem_singleton] at hy; subst hy; rw [hp] at ho'; cases ho'; exact he
      · intro y
        rw [etk, upd, List.mem_append, List.mem_singleton]
        by_cases e : y = x
        · simp [e]
        · rw [if_neg e, hf]; simp [e]
  rw [List.take_of_length_le (by omega)] at hnd hou
  have hg : ¬ (¬ l.Nodup ∨ ∃ h ∈ l, ∃ o, pay S h = some o ∧ o.ou ≠ 0) := by
    rintro (h | ⟨x, hx, o, hp, hne⟩)
    · exact h hnd
    · exact hne (hou x hx o hp)
  rw [if_neg hg]
  clear hge nl n0
  have h4' : Sat w₀ (HH b a top P S * F) w4 := h4.right
  have hone : ∀ x ∈ l, ∃ o, pay S x = some o ∧ o.ou = 0 := fun x hx => by
    obtain ⟨o, hp⟩ := hall x hx
    exact ⟨o, hp, hou x hx o hp⟩
  -- none is held
  refine ⟨fun n w m => 0 ≤ n ∧ n ≤ l.length ∧ m = l.length - n.toNat ∧ Sat w₀ (HH b a top P (zeroL S (l.take n.toNat)) * F) w, ⟨_, by omega, by omega, rfl, h4'⟩, ?_⟩
  rintro u n w9 m ⟨n0, nl, rfl, h9⟩
  refine br_dec (fun hlt => ?_) (fun hge => ?_)
  · have hi : n.toNat < l.length := by omega
    obtain ⟨x, hx⟩ : ∃ x, l[n.toNat]? = some x := ⟨_, List.getElem?_eq_getElem hi⟩
    have hxm := List.mem_of_getElem? hx
    have hrx := hr x hxm
    have rd := gx _ _ h9.right
    obtain ⟨z1, _, _, z4⟩ := zeroL_ok (l.take n.toNat) hs
    obtain ⟨o, hp⟩ := hall x hxm
    have hpz : ∃ o', pay (zeroL S (l.take n.toNat)) x = some o' := by rw [z4, hp]; exact ⟨_, rfl⟩
    obtain ⟨o', hpz⟩ := hpz
    refine idx_ok rd n0 (by omega) fun ad had => ldI_ok (n := x) (u64_at rd had hx) <| call_mono (hfind_ok h9 z1.ok hrx.1 hrx.2) ?_
    rintro _ w10 ⟨rfl, ⟨hp', rfl⟩ | ⟨k, o'', hp', hk, rfl⟩⟩
    · rw [hpz] at hp'; cases hp'
    rw [hpz] at hp'
    cases hp'
    obtain ⟨k', L, R, hk', h10, cl⟩ := HH.at h9 z1.ok hpz
    rw [hk] at hk'
    cases hk'
    have h11 := obj_open h10
    refine ⟨_, _, rfl, nn_ok <| st_ok (i := 0) h11 (by simp [oA]) fun w11 h12 => arith_i64 (by omega) (by omega) ⟨_, ?_, by omega, by omega, rfl, ?_⟩⟩
    · omega
    · have esn : zeroL S (l.take (n + 1).toNat) = upA (zeroL S (l.take n.toNat)) x { o' with cn := 0 } := by
        rw [show (n + 1).toNat = n.toNat + 1 by omega, List.take_add_one, hx]
        show zeroL S (l.take n.toNat ++ [x]) = _
        rw [zeroL_snoc, hpz]
      rw [esn]
      exact cl { o' with cn := 0 } L F w11 (obj_shut h12)
  · rw [List.take_of_length_le (by omega)] at h9
    obtain ⟨z1, z2, z3, z4⟩ := remM_ok hs hnd hone
    have hcc := hs.toHBase.cnt
    refine call_mono (slices_Clone_ok (c := c) h9 (Gives.right gx) (by omega)) ?_
    rintro _ w12 ⟨q, d, rfl, h12⟩
    refine asS_ok <| new_ok h12 fun k47 w13 h13 => ?_
    have h14 : Sat w₀ (FL k47 b l [] [] * (HH b a top P (zeroL S l) * F)) w13 := by
      refine FL.shut (wt := l) (gn := []) (fo := []) (lw := l.length) (lg := 0) (lf := 0) (pw := q) (cw := d) (pg := none) (cg := 0) (pf := none) (cf := 0) ?_ rfl rfl rfl
      have h15 := que_of_own (show Sat w₀ (own T_uint64 1 q l.length d (u64L l) * (blk k47 #[.pointer (some ⟨b, 0, none⟩), .slice q l.length d, .slice none 0 0, .slice none 0 0] T_heap_fall * (HH b a top P (zeroL S l) * F))) w13 from h13.perm (by
        rw [tab, u64L_flat]
        show blk k47 _ T_heap_fall * _ = _
        ac_rfl))
      exact (tab_nil T_uint64 1 fU64 (tab_nil T_uint64 1 fU64 h15)).perm (by ac_rfl)
    refine call_mono (heap_run_ok h14 z1 z2 (by simp; omega) (by simp; omega)) ?_
    rintro _ w14 ⟨r, P', pg, cg, pf, cf, g1, g2, g3, g4, g5, g6, rfl, h17⟩
    exact ⟨_, _, _, _, _, _, rfl, .inr ⟨rfl, r, P', pg, cg, pf, cf, g1, g2, g3, g4, g5, g6, rfl, h17⟩⟩

/-! ### values -/
def vaM (S : HS) (h : Int) : Int × Int := match pay S h with | none => (0, 2) | some o => (o.va, 0)
theorem heap_Value_ok {h : Int} (hh : Sat w₀ (HH b a top P S * F) w) (ho : AOk S) (h0 : 0 ≤ h) (h1 : h ≤ 18446744073709551615) :
    call Try.prog fn_heap_Heap_Value #[.pointer (some ⟨b, 0, none⟩), .int .u64 h] w fun v w' => w' = w ∧ v = .tuple #[.int .i64 (vaM S h).1, .int .i64 (vaM S h).2] := by
  apply heap_Heap_Value_call
  unfold heap_Heap_Value
  refine call_mono (hfind_ok hh ho h0 h1) ?_
  rintro _ w2 ⟨rfl, ⟨hp, rfl⟩ | ⟨k, o, hp, hk, rfl⟩⟩
  · exact ⟨_, _, rfl, br_true rfl ⟨rfl, by rw [vaM, hp]⟩⟩
  · obtain ⟨k', L, R, hk', h7, _⟩ := HH.at hh ho hp
    rw [hk] at hk'
    cases hk'
    exact ⟨_, _, rfl, br_false rfl <| nn_ok <| ldI_ok (n := o.va) (obj_cell h7 (i := 2) rfl) ⟨rfl, by rw [vaM, hp]⟩⟩
theorem heap_Store_ok {h n : Int} (hh : Sat w₀ (HH b a top P S * F) w) (ho : AOk S) (h0 : 0 ≤ h) (h1 : h ≤ 18446744073709551615) :
    call Try.prog fn_heap_Heap_Store #[.pointer (some ⟨b, 0, none⟩), .int .u64 h, .int .i64 n] w fun v w' => v = .int .i64 (stM S h n).2 ∧ Sat w₀ (HH b a top P (stM S h n).1 * F) w' := by
  apply heap_Heap_Store_call
  unfold heap_Heap_Store
  refine call_mono (hfind_ok hh ho h0 h1) ?_
  rintro _ w2 ⟨rfl, ⟨hp, rfl⟩ | ⟨k, o, hp, hk, rfl⟩⟩
  · exact ⟨_, _, rfl, br_false rfl ⟨by rw [stM, hp], by rw [stM, hp]; exact hh⟩⟩
  · obtain ⟨k', L, R, hk', h7, cl⟩ := HH.at hh ho hp
    rw [hk] at hk'
    cases hk'
    have h8 := obj_open h7
    refine ⟨_, _, rfl, br_true rfl <| nn_ok <| st_ok (i := 2) h8 (by simp [oA]) fun w3 h9 => ⟨by rw [stM, hp], ?_⟩⟩
    rw [stM, hp]
    exact cl { o with va := n } L F w3 (obj_shut h9)
end
end Go.Proofs.Ytgchemgnmijpdaa
