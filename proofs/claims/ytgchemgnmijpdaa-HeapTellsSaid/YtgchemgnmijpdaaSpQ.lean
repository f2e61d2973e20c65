/- Slices that lost their head. No conditions. -/
import Derived.Test.YtgchemgnmijpdaaSpC
import Derived.ArgAppend
set_option linter.unusedVariables false
set_option linter.unusedSimpArgs false
namespace Go.Sp
open Go.RowKit

/-- A slice of one-cell things that is its holder's own, but for what lies ahead of it. -/
def que (t : TypeId) (p : Option Addr) (l c : Nat) (xs : List Value) : HP :=
  ⟨fun h => xs.length = l ∧ ((p = none ∧ l = 0 ∧ c = 0) ∨ ∃ g cur off, p = some ⟨g, off, none⟩ ∧ h g = some (.cells cur t (0, 0)) ∧ l ≤ c ∧ c ≤ maxLen ∧ off + c ≤ cur.size ∧ (cur.toList.drop off).take l = xs)⟩
section
variable {w₀ w : World} {F : HP} {t : TypeId} {p : Option Addr} {l c : Nat} {xs : List Value}
theorem que_of_own (h : Sat w₀ (own t 1 p l c xs * F) w) : Sat w₀ (que t p l c xs * F) w :=
  h.imp fun k ⟨hl, a⟩ => ⟨by simpa using hl, a.imp id fun ⟨g, cur, e, hg, h1, h2, h3, h4⟩ => ⟨g, cur, 0, e, hg, h1, h2, by omega, by simpa using h4⟩⟩
theorem que_nil (t : TypeId) (h : Sat w₀ F w) : Sat w₀ (que t none 0 0 [] * F) w := que_of_own (h.own_nil t 1)
theorem que_open (h : Sat w₀ (que t p l c xs * F) w) : xs.length = l ∧ ((p = none ∧ l = 0 ∧ c = 0) ∨ ∃ g cur off, p = some ⟨g, off, none⟩ ∧ l ≤ c ∧ c ≤ maxLen ∧ off + c ≤ cur.size ∧ (cur.toList.drop off).take l = xs ∧ Sat w₀ (blk g cur t * F) w) := by
  obtain ⟨k, hk, h1, h2, ha, s1, s2, ⟨hl, a⟩, b⟩ := h.heap
  refine ⟨hl, a.imp id ?_⟩
  rintro ⟨g, cur, off, e, hg, q1, q2, q3, q4⟩
  exact ⟨g, cur, off, e, q1, q2, q3, q4, h.os, h.tape, h.output, h.size, k, hk, h1, h2, ha, s1, s2, hg, b⟩
theorem que_shut {g off : Nat} {cur : Array Value} (h : Sat w₀ (blk g cur t * F) w) (h0 : xs.length = l) (h1 : l ≤ c) (h2 : c ≤ maxLen) (h3 : off + c ≤ cur.size) (h4 : (cur.toList.drop off).take l = xs) : Sat w₀ (que t (some ⟨g, off, none⟩) l c xs * F) w :=
  h.imp fun k a => ⟨h0, .inr ⟨g, cur, off, rfl, a, h1, h2, h3, h4⟩⟩
theorem que_cap (h : Sat w₀ (que t p l c xs * F) w) : l ≤ c := by
  obtain ⟨_, ⟨_, h1, h2⟩ | ⟨g, cur, off, _, h1, _⟩⟩ := que_open h
  · omega
  · exact h1
theorem que_rd (h : Sat w₀ (que t p l c xs * F) w) : Rd w 1 p l xs := by
  obtain ⟨hl, ⟨rfl, h1, h2⟩ | ⟨g, cur, off, rfl, h1, h2, h3, h4, h5⟩⟩ := que_open h
  · exact ⟨by omega, fun hp => absurd hp (by omega), fun a e => by cases e⟩
  · refine ⟨by omega, fun _ => ⟨_, rfl⟩, fun a e j u hj => ?_⟩
    cases e
    rw [add_mk]
    refine h5.left.cell ?_
    rw [← h4, List.getElem?_take] at hj
    split at hj
    · rw [List.getElem?_drop] at hj
      simpa using hj
    · cases hj
/-- Its first one goes. -/
theorem que_tail {x : Value} (h : Sat w₀ (que t p (l + 1) c (x :: xs) * F) w) : Sat w₀ (que t (if c = 1 then p else p.map (·.add 1)) l (c - 1) xs * F) w := by
  obtain ⟨hl, ⟨rfl, h1, h2⟩ | ⟨g, cur, off, rfl, h1, h2, h3, h4, h5⟩⟩ := que_open h
  · omega
  · rw [List.length_cons] at hl
    have h4' : (cur.toList.drop (off + 1)).take l = xs := by
      have hd : cur.toList.drop off = cur.toList.drop off := rfl
      have hlt : off < cur.toList.length := by rw [Array.length_toList]; omega
      rw [List.drop_eq_getElem_cons hlt, List.take_succ_cons] at h4
      exact (List.cons.inj h4).2
    by_cases hc : c = 1
    · rw [if_pos hc]
      have : l = 0 := by omega
      subst this
      have : xs = [] := List.eq_nil_of_length_eq_zero (by omega)
      subst this
      exact que_shut h5 rfl (by omega) (by omega) (by omega) (by simp)
    · rw [if_neg hc]
      show Sat w₀ (que t (some ((⟨g, off, none⟩ : Addr).add 1)) l (c - 1) xs * F) w
      rw [add_mk]
      exact que_shut h5 (by omega) (by omega) (by omega) (by omega) h4'
/-- One more. -/
theorem que_app {P : Program} {st ty t' : TypeId} {z v : Value} {bytes k : Nat} {K : Option Addr → Nat → Nat → World → Prop} (T : SliceTy P st t z 1 bytes)
    (h : Sat w₀ (blk k #[v] t' * (que t p l c xs * F)) w) (h1 : v.oneCell' = true) (h63 : l + 1 ≤ maxLen) (hb : (l + 1) * bytes ≤ 140737488355328)
    (hk : ∀ p' c' w', Sat w₀ (que t p' (l + 1) c' (xs ++ [v]) * F) w' → K p' (l + 1) c' w') :
    runsS P (Builtin.append_ #[st, st] ty #[.slice p l c, .slice (some ⟨k, 0, none⟩) 1 1]) w K := by
  obtain ⟨i, hi, hz, hsz, hby⟩ := T.parts
  have hv := h.left.cell (i := 0) (v := v) rfl
  have hnews : ∀ j u, [v][j]? = some u → w.cell? ((⟨k, 0, none⟩ : Addr).add j) = some u := by
    intro j u hj
    cases j with
    | zero => simp at hj; subst hj; rw [Sp.add_zero]; exact hv
    | succ j => simp at hj
  obtain ⟨hl, ⟨rfl, rfl, rfl⟩ | ⟨g, cur, off, rfl, q1, q2, q3, q4, q5⟩⟩ := que_open (h.perm (B := que t p l c xs * (blk k #[v] t' * F)) (by ac_rfl))
  · have : xs = [] := List.eq_nil_of_length_eq_zero hl
    subst this
    exact app1_ok T (h.right.right.own_nil t 1 |>.with_emp |>.right |> fun _ => (((h.perm (B := que t none 0 0 [] * (blk k #[v] t' * F)) (by ac_rfl)).right.own_nil t 1).perm (by ac_rfl))) h1 h63 hb fun p' c' w' h' => hk p' c' w' (que_of_own h')
  · by_cases hroom : l + 1 ≤ c
    · have hc := q5.left.ob'
      have hlt : off + l < cur.size := by omega
      have hr := run_append_room_cells (P := P) w st ty t i T.under hi g off l c ⟨k, 0, none⟩ 1 1 [v] (by simp [hsz]) hnews (by simpa using h1) hroom
        (fun j hj => by
          have : j = 0 := by simpa using hj
          subst this
          rw [hsz]
          simp only [World.cell?, hc, Nat.add_zero, Nat.mul_one]
          simp [hlt])
        (fun j hj => by simp only [World.frozen?, hc]; simp)
      refine ⟨some ⟨g, off, none⟩, l + 1, c, _, hr, hk _ _ _ ?_⟩
      rw [hsz, Nat.mul_one]
      show Sat w₀ _ (w.setCell ⟨g, off + l, none⟩ v)
      have h6 := (q5.setCell v hlt).perm (B := blk k #[v] t' * (blk g (cur.setIfInBounds (off + l) v) t * F)) (by ac_rfl)
      refine que_shut h6.right (by simp [hl]) hroom q2 (by simpa using q3) ?_
      have e : (cur.setIfInBounds (off + l) v).toList = cur.toList.set (off + l) v := by simp
      rw [e]
      apply List.ext_getElem?
      intro j
      rw [List.getElem?_take]
      split
      · rename_i hj
        rw [List.getElem?_drop, List.getElem?_set]
        by_cases hjl : j = l
        · subst hjl
          rw [if_pos rfl, if_pos (by rw [Array.length_toList]; exact hlt), List.getElem?_append_right (by omega), hl]
          simp
        · rw [if_neg (by omega), List.getElem?_append_left (by omega), ← q4, List.getElem?_take_of_lt (by omega), List.getElem?_drop]
      · rename_i hj
        rw [List.getElem?_eq_none (by simp; omega)]
    · have hold : ∀ j u, xs[j]? = some u → w.cell? ((⟨g, off, none⟩ : Addr).add j) = some u := fun j u hj => (que_rd (h.perm (B := que t (some ⟨g, off, none⟩) l c xs * (blk k #[v] t' * F)) (by ac_rfl))).get rfl hj
      obtain ⟨v', w', hr, hown, hg⟩ := run_append_arg_grows (P := P) w st ty t i z 1 bytes T.under hi hz hsz hby T.cells T.pos ⟨g, off, none⟩ l c xs (by omega) hold ⟨k, 0, none⟩ 1 1 [v] rfl hnews (by omega) h63 hb
      have hrow := hown.2
      obtain ⟨p', c', rfl⟩ : ∃ p' c', v' = .slice p' (l + 1) c' := by
        rcases hrow with ⟨rfl, h0⟩ | ⟨g', cap, cur', rfl, _⟩
        · omega
        · exact ⟨_, cap, rfl⟩
      have hown0 : w'.ownsRow 0 t 1 (.slice p' (l + 1) c') (l + 1) (xs ++ [v]) := ⟨hown.1, hrow.imp id fun ⟨g', cap, cur', e, hb', r⟩ => ⟨g', cap, cur', e, Nat.zero_le _, r⟩⟩
      refine ⟨p', _, c', w', hr, hk _ _ _ (que_of_own ?_)⟩
      have hF : Sat w₀ F w := q5.right.right
      refine (hF.own_nil t 1).own_grown hown0 hg (.inr ?_)
      rcases hrow with ⟨e, h0⟩ | ⟨g', cap, cur', e, hb', r⟩
      · omega
      · rw [e]; exact ⟨g', rfl, hb'⟩
end
end Go.Sp
