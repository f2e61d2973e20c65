/- Contracts of layer 2 (arena): dropping; what an arena keeps; the document's example. No conditions. -/
import Derived.Test.YtifcjbgkcgbefaaA1
set_option linter.unusedVariables false
set_option linter.unusedSimpArgs false
namespace Go.Proofs.Ytifcjbgkcgbefaa
open Go.Sp Go.RowKit

theorem count_set {α : Type} {P : α → Bool} {ys : List α} {i : Nat} {y y' : α} (h : ys[i]? = some y) : (ys.set i y').countP P + (if P y then 1 else 0) = ys.countP P + (if P y' then 1 else 0) := by
  induction ys generalizing i with
  | nil => simp at h
  | cons z ys ih =>
    cases i with
    | zero =>
      simp only [List.getElem?_cons_zero, Option.some.injEq] at h
      subst h
      simp only [List.set_cons_zero, List.countP_cons]
      omega
    | succ i =>
      have := ih (by simpa using h)
      simp only [List.set_cons_succ, List.countP_cons]
      omega
theorem count_pos {α : Type} {P : α → Bool} {ys : List α} {i : Nat} {y : α} (h : ys[i]? = some y) (hp : P y = true) : 0 < ys.countP P := List.countP_pos_iff.2 ⟨y, List.mem_of_getElem? h, hp⟩
theorem set_get {α : Type} {ys : List α} {i j : Nat} {y z : α} (h : (ys.set i z)[j]? = some y) : (j = i ∧ y = z) ∨ (j ≠ i ∧ ys[j]? = some y) := by
  rw [List.getElem?_set] at h
  by_cases e : i = j
  · rw [if_pos e] at h
    split at h
    · cases h; exact .inl ⟨e.symm, rfl⟩
    · cases h
  · rw [if_neg e] at h
    exact .inr ⟨fun h => e h.symm, h⟩
theorem AOk.start {most first : Int} (h0 : 1 ≤ most) (h1 : most ≤ 65536) (h2 : 1 ≤ first) (h3 : first ≤ 4294967295) : AOk ⟨most, first, [], [], 0⟩ :=
  ⟨h0, h1, h2, h3, by simp; omega, by simp, by simp, by simp, by simp, by simp⟩
theorem AOk.put {s : AS} (hs : AOk s) (x : Int) : AOk (put s x).1 := by
  rcases put_cases hs x with ⟨fr, i, y, hfr, hy, hst, hput⟩ | ⟨hfr, hfull, hput⟩ | ⟨hfr, hfull, hput⟩
  · rw [hput]
    have hlt := (List.getElem?_eq_some_iff.1 hy).1
    have hnd := hs.nd
    rw [hfr] at hnd
    have hni : i ∉ fr := fun hm => (List.nodup_append.1 hnd).2.2 i hm i (.head _) rfl
    have hc := count_set (P := fun z : Spot => z.st == 1) (y' := ⟨x, y.g, 1⟩) hy
    have hb := hs.bound
    have hk := hs.cnt
    simp only [hst] at hc
    refine ⟨hs.most0, hs.most1, hs.first0, hs.first1, by simpa using hs.len, fun z hz => ?_, fun j hj => ?_, (List.nodup_append.1 hnd).1, ?_, ?_⟩
    · rcases List.mem_or_eq_of_mem_set hz with hz | rfl
      · exact hs.g z hz
      · exact hs.g y (List.mem_of_getElem? hy)
    · obtain ⟨z, hz, h0⟩ := hs.fr j (by simp [hfr, hj])
      have : i ≠ j := fun e => hni (e ▸ hj)
      exact ⟨z, by simp [List.getElem?_set, this, hz], h0⟩
    · simp at hc
      show s.cnt + 1 = (s.sp.set i ⟨x, y.g, 1⟩).countP (fun z : Spot => z.st == 1)
      omega
    · rw [hfr] at hb
      simp at hb ⊢
      omega
  · rw [hput]; exact hs
  · rw [hput]
    have hb := hs.bound
    have hk := hs.cnt
    refine ⟨hs.most0, hs.most1, hs.first0, hs.first1, by simp; omega, fun z hz => ?_, by simp, by simp, ?_, ?_⟩
    · rcases List.mem_append.1 hz with hz | hz
      · exact hs.g z hz
      · rw [List.mem_singleton] at hz
        subst hz
        exact ⟨hs.first0, hs.first1⟩
    · show s.cnt + 1 = _
      rw [List.countP_append, ← hk]
      rfl
    · simp at hb ⊢
      omega
theorem drop_cases {s : AS} {i : Nat} {y : Spot} (hy : s.sp[i]? = some y) :
    (y.g < 4294967295 ∧ dropS s i = ⟨s.most, s.first, s.sp.set i ⟨0, y.g + 1, 0⟩, s.fr ++ [i], s.cnt - 1⟩) ∨ (¬ y.g < 4294967295 ∧ dropS s i = ⟨s.most, s.first, s.sp.set i ⟨0, y.g, 2⟩, s.fr, s.cnt - 1⟩) := by
  by_cases h : y.g < 4294967295
  · exact .inl ⟨h, by simp [dropS, hy, h]⟩
  · exact .inr ⟨h, by simp [dropS, hy, h]⟩
theorem AOk.drop {s : AS} (hs : AOk s) {i : Nat} {y : Spot} (hy : s.sp[i]? = some y) (h1 : y.st = 1) : AOk (dropS s i) := by
  have hlt := (List.getElem?_eq_some_iff.1 hy).1
  have hni : i ∉ s.fr := fun hm => by
    obtain ⟨z, hz, h0⟩ := hs.fr i hm
    rw [hy] at hz
    cases hz
    omega
  have hb := hs.bound
  have hk := hs.cnt
  have hp := count_pos (P := fun z : Spot => z.st == 1) hy (by simp [h1])
  have hgy := hs.g y (List.mem_of_getElem? hy)
  rcases drop_cases hy with ⟨hg, hd⟩ | ⟨hg, hd⟩
  · rw [hd]
    have hc := count_set (P := fun z : Spot => z.st == 1) (y' := ⟨0, y.g + 1, 0⟩) hy
    simp [h1] at hc
    refine ⟨hs.most0, hs.most1, hs.first0, hs.first1, by simpa using hs.len, fun z hz => ?_, fun j hj => ?_, ?_, ?_, ?_⟩
    · rcases List.mem_or_eq_of_mem_set hz with hz | rfl
      · exact hs.g z hz
      · show 1 ≤ y.g + 1 ∧ y.g + 1 ≤ 4294967295
        omega
    · rcases List.mem_append.1 hj with hj | hj
      · obtain ⟨z, hz, h0⟩ := hs.fr j hj
        have : i ≠ j := fun e => hni (e ▸ hj)
        exact ⟨z, by simp [List.getElem?_set, this, hz], h0⟩
      · rw [List.mem_singleton] at hj
        subst hj
        exact ⟨⟨0, y.g + 1, 0⟩, by simp [hlt], rfl⟩
    · refine List.nodup_append.2 ⟨hs.nd, by simp, fun a ha b hb e => ?_⟩
      rw [List.mem_singleton] at hb
      rw [e, hb] at ha
      exact hni ha
    · show s.cnt - 1 = (s.sp.set i ⟨0, y.g + 1, 0⟩).countP (fun z : Spot => z.st == 1)
      omega
    · simp at hb ⊢
      omega
  · rw [hd]
    have hc := count_set (P := fun z : Spot => z.st == 1) (y' := ⟨0, y.g, 2⟩) hy
    simp [h1] at hc
    refine ⟨hs.most0, hs.most1, hs.first0, hs.first1, by simpa using hs.len, fun z hz => ?_, fun j hj => ?_, hs.nd, ?_, ?_⟩
    · rcases List.mem_or_eq_of_mem_set hz with hz | rfl
      · exact hs.g z hz
      · exact hgy
    · obtain ⟨z, hz, h0⟩ := hs.fr j hj
      have : i ≠ j := fun e => hni (e ▸ hj)
      exact ⟨z, by simp [List.getElem?_set, this, hz], h0⟩
    · show s.cnt - 1 = (s.sp.set i ⟨0, y.g, 2⟩).countP (fun z : Spot => z.st == 1)
      omega
    · simp at hb ⊢
      omega

/-- What a handle's dropping gives: the thing, the error, the arena. -/
def dropR (s : AS) (h : Int) : AS × Int × Int :=
  match (find s h).bind fun i => (s.sp[i]?).map fun y => (dropS s i, y.x, (0 : Int)) with
  | some r => r
  | none => (s, 0, 2)
theorem dropR_none {s : AS} {h : Int} (hf : find s h = none) : dropR s h = (s, 0, 2) := by simp [dropR, hf]
theorem dropR_some {s : AS} {h : Int} {i : Nat} {y : Spot} (hf : find s h = some i) (hy : s.sp[i]? = some y) : dropR s h = (dropS s i, y.x, 0) := by simp [dropR, hf, hy]
theorem AOk.dropR {s : AS} (hs : AOk s) (h : Int) : AOk (dropR s h).1 := by
  cases hf : find s h with
  | none => rw [dropR_none hf]; exact hs
  | some i =>
    obtain ⟨y, hy, h1, _⟩ := (find_iff hs).1 hf
    rw [dropR_some hf hy]
    exact hs.drop hy h1
theorem arena_Drop_ok {w₀ w : World} {F : HP} {a : Nat} {s : AS} {h : Int} (hh : Sat w₀ (Ar a s * F) w) (hs : AOk s) (h0 : 0 ≤ h) (h1 : h ≤ 18446744073709551615) :
    call Try.prog fn_arena_Arena_Drop #[.pointer (some ⟨a, 0, none⟩), .int .u64 h] w fun v w' => v = .tuple #[.int .i64 (dropR s h).2.1, .int .i64 (dropR s h).2.2] ∧ Sat w₀ (Ar a (dropR s h).1 * F) w' := by
  apply arena_Arena_Drop_call
  unfold arena_Arena_Drop
  obtain ⟨p, c, q, d, hh⟩ := Ar.open_ hh
  refine call_mono (arena_find_ok hh h0 h1) ?_
  cases hf : find s h with
  | none =>
    rintro _ w1 ⟨rfl, rfl⟩
    rw [dropR_none hf]
    exact ⟨_, _, rfl, br_true rfl ⟨rfl, Ar.shut hh⟩⟩
  | some i =>
    rintro _ w1 ⟨rfl, g, hg, rfl⟩
    obtain ⟨y, hy, hst, _⟩ := (find_iff hs).1 hf
    rw [dropR_some hf hy]
    have hlt := (List.getElem?_eq_some_iff.1 hy).1
    have hgy := hs.g y (List.mem_of_getElem? hy)
    have hb := hs.bound
    have hl := hs.len
    have hm := hs.most1
    have hp := count_pos (P := fun z : Spot => z.st == 1) hy (by simp [hst])
    have hk := hs.cnt
    obtain ⟨st', hst', hne⟩ : ∃ st' : Int, st' = (if y.g < 4294967295 then 0 else 2) ∧ st' ≠ 1 := ⟨_, rfl, by split <;> decide⟩
    refine ⟨_, _, rfl, br_false rfl <| nn_ok <| ldI_ok (tab_cell spotF_len (j := 0) hh.right.left hg hy (by decide) rfl) <| nn_ok ?_⟩
    refine tab_st spotF_len (y' := ⟨0, y.g, 1⟩) hh.p1 hg hy (by decide) (by simp [spotF, hst]) fun w2 h2 => nn_ok ?_
    refine tab_st spotF_len (y := ⟨0, y.g, 1⟩) (y' := ⟨0, y.g, st'⟩) h2 hg (by simp [hlt]) (by decide) (by simp [spotF, hne]) fun w3 h3 => ?_
    rw [List.set_set] at h3
    have h3 := h3.p1
    refine nn_ok <| ldI_ok (h3.left.cell (i := 4) rfl) <| arith_i64 (by omega) (by omega) <| nn_ok <| st_ok (i := 4) h3 (by simp) fun w4 h4 => ?_
    have h4 : Sat w₀ (blk a #[.int .i64 s.most, .int .u32 s.first, .slice p s.sp.length c, .slice q s.fr.length d, .int .i64 ((s.cnt - 1 : Nat) : Int)] T_arena_Arena_int_ * (tab T_arena_spot_int_ 3 spotF p s.sp.length c (s.sp.set i ⟨0, y.g, st'⟩) * (tab T_int 1 fNat q s.fr.length d s.fr * F))) w4 := by
      have e : ((s.cnt - 1 : Nat) : Int) = (s.cnt : Int) - 1 := by omega
      rw [e]
      exact h4
    have hy4 : (s.sp.set i ⟨0, y.g, st'⟩)[i]? = some (⟨0, y.g, st'⟩ : Spot) := by simp [hlt]
    refine nn_ok <| ldI_ok (tab_cell spotF_len (j := 1) h4.right.left hg hy4 (by decide) rfl) <| br_dec (fun hlt => ?_) (fun hge => ?_)
    · have e0 : st' = 0 := by rw [hst', if_pos hlt]
      subst e0
      refine nn_ok <| ldI_ok (tab_cell spotF_len (j := 1) h4.right.left hg hy4 (by decide) rfl) <| arith_u32 (by dsimp only; omega) (by dsimp only at hlt ⊢; omega) <| nn_ok <| tab_st spotF_len (y' := ⟨0, y.g + 1, 0⟩) h4.p1 hg hy4 (by decide) rfl fun w5 h5 => ?_
      rw [List.set_set] at h5
      have h5 := h5.p1
      refine nn_ok <| ldS_ok (h5.left.cell (i := 3) rfl) <| new_ok h5 fun k w6 h6 => ?_
      refine tab_app intsTy fNat_len (by decide) fNat_one (x := i) (h6.perm (B := _ * (tab T_int 1 fNat q s.fr.length d s.fr * (blk a #[.int .i64 s.most, .int .u32 s.first, .slice p s.sp.length c, .slice q s.fr.length d, .int .i64 ((s.cnt - 1 : Nat) : Int)] T_arena_Arena_int_ * (tab T_arena_spot_int_ 3 spotF p s.sp.length c (s.sp.set i ⟨0, y.g + 1, 0⟩) * F)))) (by ac_rfl)) rfl (by simp only [maxLen]; omega) (by omega) fun p' c' w7 h7 => ?_
      refine nn_ok <| st_ok (i := 3) h7.p1 (by simp) fun w8 h8 => ⟨rfl, ?_⟩
      rcases drop_cases hy with ⟨_, hd⟩ | ⟨hn, _⟩
      · rw [hd]
        exact Ar.shut (l := s.sp.length) (m := s.fr.length + 1) (p := p) (q := p') (c := c) (d := c') (h8.perm (by
          show blk a #[.int .i64 s.most, .int .u32 s.first, .slice p s.sp.length c, .slice p' (s.fr.length + 1) c', .int .i64 ((s.cnt - 1 : Nat) : Int)] T_arena_Arena_int_ * _ = _
          ac_rfl))
      · exact absurd hlt hn
    · have e0 : st' = 2 := by rw [hst', if_neg hge]
      subst e0
      refine ⟨rfl, ?_⟩
      rcases drop_cases hy with ⟨hn, _⟩ | ⟨_, hd⟩
      · exact absurd hn hge
      · rw [hd]
        exact Ar.shut h4
def setR (s : AS) (h x : Int) : AS × Int :=
  match (find s h).bind fun i => (s.sp[i]?).map fun y => ((⟨s.most, s.first, s.sp.set i ⟨x, y.g, 1⟩, s.fr, s.cnt⟩ : AS), (0 : Int)) with
  | some r => r
  | none => (s, 2)
theorem setR_none {s : AS} {h x : Int} (hf : find s h = none) : setR s h x = (s, 2) := by simp [setR, hf]
theorem setR_some {s : AS} {h x : Int} {i : Nat} {y : Spot} (hf : find s h = some i) (hy : s.sp[i]? = some y) : setR s h x = (⟨s.most, s.first, s.sp.set i ⟨x, y.g, 1⟩, s.fr, s.cnt⟩, 0) := by simp [setR, hf, hy]
theorem arena_Set_ok {w₀ w : World} {F : HP} {a : Nat} {s : AS} {h x : Int} (hh : Sat w₀ (Ar a s * F) w) (hs : AOk s) (h0 : 0 ≤ h) (h1 : h ≤ 18446744073709551615) :
    call Try.prog fn_arena_Arena_Set #[.pointer (some ⟨a, 0, none⟩), .int .u64 h, .int .i64 x] w fun v w' => v = .int .i64 (setR s h x).2 ∧ Sat w₀ (Ar a (setR s h x).1 * F) w' := by
  apply arena_Arena_Set_call
  unfold arena_Arena_Set
  obtain ⟨p, c, q, d, hh⟩ := Ar.open_ hh
  refine call_mono (arena_find_ok hh h0 h1) ?_
  cases hf : find s h with
  | none =>
    rintro _ w1 ⟨rfl, rfl⟩
    rw [setR_none hf]
    exact ⟨_, _, rfl, br_true rfl ⟨rfl, Ar.shut hh⟩⟩
  | some i =>
    rintro _ w1 ⟨rfl, g, hg, rfl⟩
    obtain ⟨y, hy, hst, _⟩ := (find_iff hs).1 hf
    rw [setR_some hf hy]
    exact ⟨_, _, rfl, br_false rfl <| nn_ok <| tab_st spotF_len (y' := ⟨x, y.g, 1⟩) hh.p1 hg hy (by decide) (by simp [spotF, hst]) fun w2 h2 => ⟨rfl, Ar.shut h2.p1⟩⟩
theorem AOk.setR {s : AS} (hs : AOk s) (h x : Int) : AOk (setR s h x).1 := by
  cases hf : find s h with
  | none => rw [setR_none hf]; exact hs
  | some i =>
    obtain ⟨y, hy, h1, _⟩ := (find_iff hs).1 hf
    rw [setR_some hf hy]
    have hlt := (List.getElem?_eq_some_iff.1 hy).1
    have hc := count_set (P := fun z : Spot => z.st == 1) (y' := ⟨x, y.g, 1⟩) hy
    simp only [h1] at hc
    refine ⟨hs.most0, hs.most1, hs.first0, hs.first1, by simpa using hs.len, fun z hz => ?_, fun j hj => ?_, hs.nd, ?_, by simpa using hs.bound⟩
    · rcases List.mem_or_eq_of_mem_set hz with hz | rfl
      · exact hs.g z hz
      · exact hs.g y (List.mem_of_getElem? hy)
    · obtain ⟨z, hz, h0⟩ := hs.fr j hj
      have : i ≠ j := fun e => by
        rw [← e, hy] at hz
        cases hz
        omega
      exact ⟨z, by simp [List.getElem?_set, this, hz], h0⟩
    · have := hs.cnt
      simp at hc
      show s.cnt = (s.sp.set i ⟨x, y.g, 1⟩).countP (fun z : Spot => z.st == 1)
      omega
theorem hd_range {i : Nat} {g : Int} (hi : i < 4294967295) (h0 : 0 ≤ g) (h1 : g ≤ 4294967295) : 0 ≤ hd i g ∧ hd i g ≤ 18446744073709551615 := by unfold hd; omega

theorem tenonlaw02_awake_ok {w₀ w : World} {F : HP} (h : Sat w₀ F w) : call Try.prog fn_tenonlaw02_awake #[] w fun v w' => v = .bool true ∧ Sat w₀ F w' := by
  apply tenonlaw02_awake_call
  unfold tenonlaw02_awake
  refine call_mono (arena_New_ok (most := 2) (first := 1) h (by decide) (by decide) (by decide)) ?_
  rintro _ w1 ⟨a, rfl, h1⟩
  have k1 := AOk.start (most := 2) (first := 1) (by decide) (by decide) (by decide) (by decide)
  refine ⟨_, _, rfl, call_mono (arena_Put_ok (x := 7) h1 k1) ?_⟩
  rintro _ w2 ⟨rfl, h2⟩
  have k2 := k1.put 7
  have e2 : (put ⟨2, 1, [], [], 0⟩ 7) = (⟨2, 1, [⟨7, 1, 1⟩], [], 1⟩, 4294967297, 0) := rfl
  rw [e2] at h2 k2 ⊢
  refine ⟨_, _, rfl, call_mono (arena_Drop_ok h2 k2 (by decide) (by decide)) ?_⟩
  rintro _ w3 ⟨rfl, h3⟩
  have k3 := k2.dropR 4294967297
  have e3 : (dropR ⟨2, 1, [⟨7, 1, 1⟩], [], 1⟩ 4294967297) = (⟨2, 1, [⟨0, 2, 0⟩], [0], 0⟩, 7, 0) := rfl
  rw [e3] at h3 k3 ⊢
  refine ⟨_, _, rfl, call_mono (arena_Put_ok (x := 8) h3 k3) ?_⟩
  rintro _ w4 ⟨rfl, h4⟩
  have e4 : (put ⟨2, 1, [⟨0, 2, 0⟩], [0], 0⟩ 8) = (⟨2, 1, [⟨8, 2, 1⟩], [], 1⟩, 8589934593, 0) := rfl
  rw [e4] at h4 ⊢
  refine ⟨_, _, rfl, call_mono (arena_Get_ok (h := 4294967297) h4 (by decide) (by decide)) ?_⟩
  have e5 : ((find ⟨2, 1, [⟨8, 2, 1⟩], [], 1⟩ 4294967297).bind ((⟨2, 1, [⟨8, 2, 1⟩], [], 1⟩ : AS).sp[·]?)) = none := rfl
  rw [e5]
  rintro _ w5 ⟨rfl, rfl⟩
  exact ⟨_, _, rfl, br_true rfl <| br_true rfl <| br_true rfl <| br_true rfl <| br_true rfl <| br_true rfl <| br_true rfl ⟨rfl, h4.right⟩⟩
end Go.Proofs.Ytifcjbgkcgbefaa
