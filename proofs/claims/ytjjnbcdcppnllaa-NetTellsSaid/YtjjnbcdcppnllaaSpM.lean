/- Maps: what they hold, key by key. No conditions. -/
import Derived.Test.YtjjnbcdcppnllaaSpB
import Derived.MapKept
set_option linter.unusedVariables false
set_option linter.unusedSimpArgs false
set_option maxRecDepth 100000
namespace Go.Sp
open Go.RowKit

/-- How a map type's keys are laid, and found. -/
structure KeyTy (P : Program) (t k e : TypeId) {κ : Type} [DecidableEq κ] (kf : κ → Value) (S : κ → Prop) : Prop where
  ht : P.underlying t = some (.map k e)
  chk : ∀ b x w, S x → (Instr.checkKey b 10000 k (kf x)).run P w = .ok () w
  eqv : ∀ x (l : List MapEntry) (ks : List κ) w, S x → (∀ y ∈ ks, S y) → l.map (·.key) = ks.map kf → (Instr.findKey k (kf x) l).run P w = .ok (match ks.findIdx? (fun y => decide (y = x)) with | some i => (l[i]?).map fun e => (i, e.val) | none => none) w
  stays : ∀ x w, S x → (Instr.keyThatStays (kf x) (kf x)).run P w = .ok (kf x) w
/-- What a map holds. -/
def mapH {κ ν : Type} [DecidableEq κ] (kf : κ → Value) (vf : ν → Value) (S : κ → Prop) (r : Nat) (f : κ → Option ν) : HP := ex fun (a : Array MapEntry) => ex fun (clk : Nat) => ex fun (m : List (κ × ν)) =>
  prop ((m.map (·.1)).Nodup ∧ (∀ p ∈ m, S p.1) ∧ (∀ x, m.lookup x = f x) ∧ a.toList.map (fun e => (e.key, e.val)) = m.map fun p => (kf p.1, vf p.2)) * ob r (.map a clk)
theorem keys_of {κ ν : Type} {kf : κ → Value} {vf : ν → Value} {a : List MapEntry} {m : List (κ × ν)} (h : a.map (fun e => (e.key, e.val)) = m.map fun p => (kf p.1, vf p.2)) : a.map (·.key) = (m.map (·.1)).map kf := by
  have := congrArg (List.map Prod.fst) h
  simpa [List.map_map, Function.comp_def] using this
theorem map_eraseIdx {α β : Type} (g : α → β) : ∀ (l : List α) (i : Nat), (l.eraseIdx i).map g = (l.map g).eraseIdx i
  | [], _ => by simp
  | x :: l, 0 => by simp
  | x :: l, i + 1 => by simp [map_eraseIdx g l i]
section
variable {κ ν : Type} [DecidableEq κ] {kf : κ → Value} {vf : ν → Value} {S : κ → Prop} {w₀ w : World} {F : HP} {P : Program} {t k e : TypeId} {r : Nat} {f : κ → Option ν}
theorem newM_ok (kf : κ → Value) (vf : ν → Value) (S : κ → Prop) {K : Nat → World → Prop} (h : Sat w₀ F w) (hk : ∀ r w', Sat w₀ (mapH kf vf S r (fun _ => none) * F) w' → K r w') : newM w K := by
  refine hk _ _ ?_
  refine Sat.to_ex #[] (Sat.to_ex 0 (Sat.to_ex [] ?_))
  exact (((h.alloc (.map #[] 0)).add_prop (p := ((([] : List (κ × ν)).map (·.1)).Nodup ∧ (∀ p ∈ ([] : List (κ × ν)), S p.1) ∧ (∀ x, ([] : List (κ × ν)).lookup x = none) ∧ (#[] : Array MapEntry).toList.map (fun e => (e.key, e.val)) = ([] : List (κ × ν)).map fun p => (kf p.1, vf p.2))) ⟨by simp, by simp, by simp, by simp⟩)).perm (by ac_rfl)
theorem mapH.open_ (h : Sat w₀ (mapH kf vf S r f * F) w) : ∃ (a : Array MapEntry) (clk : Nat) (m : List (κ × ν)), ((m.map (·.1)).Nodup ∧ (∀ p ∈ m, S p.1) ∧ (∀ x, m.lookup x = f x) ∧ a.toList.map (fun e => (e.key, e.val)) = m.map fun p => (kf p.1, vf p.2)) ∧ Sat w₀ (ob r (.map a clk) * F) w := by
  obtain ⟨a, h⟩ := Sat.ex h
  obtain ⟨clk, h⟩ := Sat.ex h
  obtain ⟨m, h⟩ := Sat.ex h
  have h := h.perm (B := prop _ * (ob r (.map a clk) * F)) (sep_assoc _ _ _)
  exact ⟨a, clk, m, h.prop, h.right⟩
theorem mapH.shut {a : Array MapEntry} {clk : Nat} {m : List (κ × ν)} (hm : (m.map (·.1)).Nodup ∧ (∀ p ∈ m, S p.1) ∧ (∀ x, m.lookup x = f x) ∧ a.toList.map (fun e => (e.key, e.val)) = m.map fun p => (kf p.1, vf p.2)) (h : Sat w₀ (ob r (.map a clk) * F) w) : Sat w₀ (mapH kf vf S r f * F) w :=
  Sat.to_ex a (Sat.to_ex clk (Sat.to_ex m ((h.add_prop hm).perm (sep_assoc _ _ _).symm)))
theorem look_idx (m : List (κ × ν)) (x : κ) : (match (m.map (·.1)).findIdx? (fun y => decide (y = x)) with | some i => (m[i]?).map (·.2) | none => none) = m.lookup x := by
  induction m with
  | nil => rfl
  | cons p m ih =>
    obtain ⟨y, v⟩ := p
    by_cases h : y = x
    · subst h
      simp [List.findIdx?_cons, List.lookup]
    · rw [List.map_cons, List.findIdx?_cons]
      simp only [h, decide_false, Bool.false_eq_true, if_false]
      rw [List.lookup]
      have : (x == y) = false := by simpa using fun e => h e.symm
      rw [this, ← ih]
      cases (m.map (·.1)).findIdx? fun y => decide (y = x) with
      | none => rfl
      | some i => simp
theorem find_run (T : KeyTy P t k e kf S) {a : List MapEntry} {m : List (κ × ν)} (hS : ∀ p ∈ m, S p.1) (h : a.map (fun e => (e.key, e.val)) = m.map fun p => (kf p.1, vf p.2)) {x : κ} (hx : S x) (w : World) :
    ((m.lookup x = none ∧ (m.map (·.1)).findIdx? (fun y => decide (y = x)) = none ∧ (Instr.findKey k (kf x) a).run P w = .ok none w) ∨
     ∃ i v, m.lookup x = some v ∧ m[i]? = some (x, v) ∧ (m.map (·.1)).findIdx? (fun y => decide (y = x)) = some i ∧ (Instr.findKey k (kf x) a).run P w = .ok (some (i, vf v)) w) := by
  have hr := T.eqv x a (m.map (·.1)) w hx (by simpa using hS) (keys_of h)
  have hl := look_idx m x
  cases hf : (m.map (·.1)).findIdx? (fun y => decide (y = x)) with
  | none =>
    rw [hf] at hr hl
    exact .inl ⟨hl.symm, rfl, hr⟩
  | some i =>
    rw [hf] at hr hl
    right
    rw [List.findIdx?_eq_some_iff_getElem] at hf
    obtain ⟨hi, he, _⟩ := hf
    have hi' : i < m.length := by simpa using hi
    have he : m[i].1 = x := by simpa using he
    have hmi : m[i]? = some (x, m[i].2) := by rw [List.getElem?_eq_getElem hi', ← he]
    refine ⟨i, m[i].2, ?_, hmi, rfl, ?_⟩
    · rw [← hl]
      show (m[i]?).map (·.2) = _
      rw [hmi]
      rfl
    · rw [hr]
      have h2 := congrArg (fun l => l[i]?) h
      simp only [List.getElem?_map, hmi, Option.map_some] at h2
      obtain ⟨en, hen, e2⟩ := Option.map_eq_some_iff.1 h2
      simp only [Prod.mk.injEq] at e2
      simp [hen, e2.2]
theorem run_getMap {a : Array MapEntry} {clk : Nat} (h : w.heap[r]? = some (.map a clk)) : (getObj r).run P w = .ok (.map a clk) w := by simp [getObj, Sem.run, h]
theorem run_setMap {a : Array MapEntry} {clk : Nat} {o : Obj} (h : w.heap[r]? = some (.map a clk)) : (setObj r o).run P w = .ok () (w.putObj r o) := by simp [setObj, Sem.run, h, World.putObj]
theorem look_ok (T : KeyTy P t k e kf S) {x : κ} {z : Value} {K : Value → Prop} (h : Sat w₀ (mapH kf vf S r f * F) w) (hx : S x) (hz : (zeroValue e).run P w = .ok z w) {ok : Bool}
    (hk : K (if ok then .tuple #[(match f x with | some v => vf v | none => z), .bool (f x).isSome] else (match f x with | some v => vf v | none => z))) : lookW P t (some r) (kf x) ok w K := by
  obtain ⟨a, clk, m, ⟨hnd, hS, hm, ha⟩, h2⟩ := mapH.open_ h
  have hb := h2.ob
  refine ⟨_, ?_, hk⟩
  rcases find_run T hS ha hx w with ⟨hl, _, hr⟩ | ⟨i, v, hl, hi, _, hr⟩
  · rw [hm] at hl
    simp [Instr.lookup, run_underlying T.ht, run_getMap hb, T.chk _ _ _ hx, hr, hz, hl]
  · rw [hm] at hl
    simp [Instr.lookup, run_underlying T.ht, run_getMap hb, T.chk _ _ _ hx, hr, hl]
/-- A map with one key turned. -/
def upd (f : κ → Option ν) (x : κ) (v : Option ν) : κ → Option ν := fun y => if y = x then v else f y
theorem lookup_append_new {m : List (κ × ν)} {x : κ} {v : ν} (h : m.lookup x = none) (y : κ) : (m ++ [(x, v)]).lookup y = if y = x then some v else m.lookup y := by
  induction m with
  | nil =>
    by_cases e : y = x
    · subst e; simp [List.lookup]
    · have : (y == x) = false := by simpa using e
      simp [List.lookup, this, e]
  | cons p m ih =>
    obtain ⟨q, u⟩ := p
    rw [List.cons_append, List.lookup, List.lookup]
    rw [List.lookup] at h
    cases hq : (x == q) with
    | true => rw [hq] at h; cases h
    | false =>
      rw [hq] at h
      cases hy : (y == q) with
      | true =>
        have : y = q := by simpa using hy
        subst this
        have : y ≠ x := fun e => by subst e; simp at hq
        simp [this]
      | false => exact ih h
theorem lookup_none {m : List (κ × ν)} {x : κ} (h : m.lookup x = none) : x ∉ m.map (·.1) := by
  induction m with
  | nil => simp
  | cons p m ih =>
    obtain ⟨q, u⟩ := p
    rw [List.lookup] at h
    cases hq : (x == q) with
    | true => rw [hq] at h; cases h
    | false =>
      rw [hq] at h
      have : x ≠ q := by simpa using hq
      simp [this]
      simpa using ih h
theorem lookup_set {m : List (κ × ν)} {i : Nat} {x : κ} {v v' : ν} (hnd : (m.map (·.1)).Nodup) (hi : m[i]? = some (x, v)) (y : κ) : (m.set i (x, v')).lookup y = if y = x then some v' else m.lookup y := by
  induction m generalizing i with
  | nil => simp at hi
  | cons p m ih =>
    obtain ⟨q, u⟩ := p
    rw [List.map_cons, List.nodup_cons] at hnd
    cases i with
    | zero =>
      simp at hi
      obtain ⟨rfl, rfl⟩ := hi
      rw [List.set_cons_zero, List.lookup, List.lookup]
      cases hy : (y == q) with
      | true => simp [show y = q by simpa using hy]
      | false => simp [show y ≠ q by simpa using hy]
    | succ i =>
      rw [List.set_cons_succ, List.lookup, List.lookup]
      have hi : m[i]? = some (x, v) := by simpa using hi
      cases hy : (y == q) with
      | true =>
        have : y = q := by simpa using hy
        subst this
        have : y ≠ x := fun e => hnd.1 (List.mem_map.2 ⟨(x, v), List.mem_of_getElem? hi, e.symm⟩)
        simp [this]
      | false => exact ih hnd.2 hi
theorem lookup_erase {m : List (κ × ν)} {i : Nat} {x : κ} {v : ν} (hnd : (m.map (·.1)).Nodup) (hi : m[i]? = some (x, v)) (y : κ) : (m.eraseIdx i).lookup y = if y = x then none else m.lookup y := by
  induction m generalizing i with
  | nil => simp at hi
  | cons p m ih =>
    obtain ⟨q, u⟩ := p
    rw [List.map_cons, List.nodup_cons] at hnd
    cases i with
    | zero =>
      simp at hi
      obtain ⟨rfl, rfl⟩ := hi
      rw [List.eraseIdx_cons_zero, List.lookup]
      cases hy : (y == q) with
      | true =>
        have : y = q := by simpa using hy
        subst this
        simp only [if_true]
        cases hl : m.lookup y with
        | none => rfl
        | some u' =>
          exfalso
          have : ∀ (l : List (κ × ν)), l.lookup y = some u' → y ∈ l.map (·.1) := by
            intro l
            induction l with
            | nil => intro h; cases h
            | cons p l ih =>
              obtain ⟨a, b⟩ := p
              intro h
              rw [List.lookup] at h
              cases ha : (y == a) with
              | true => simp [show y = a by simpa using ha]
              | false => rw [ha] at h; exact List.mem_cons_of_mem _ (ih h)
          exact hnd.1 (this m hl)
      | false => simp [show y ≠ q by simpa using hy]
    | succ i =>
      rw [List.eraseIdx_cons_succ, List.lookup, List.lookup]
      have hi : m[i]? = some (x, v) := by simpa using hi
      cases hy : (y == q) with
      | true =>
        have : y = q := by simpa using hy
        subst this
        have : y ≠ x := fun e => hnd.1 (List.mem_map.2 ⟨(x, v), List.mem_of_getElem? hi, e.symm⟩)
        simp [this]
      | false => exact ih hnd.2 hi
theorem setM_ok (T : KeyTy P t k e kf S) {x : κ} {v : ν} {K : World → Prop} (h : Sat w₀ (mapH kf vf S r f * F) w) (hx : S x) (hk : ∀ w', Sat w₀ (mapH kf vf S r (upd f x (some v)) * F) w' → K w') : setM P t (some r) (kf x) (vf v) w K := by
  obtain ⟨a, clk, m, ⟨hnd, hS, hm, ha⟩, h2⟩ := mapH.open_ h
  have hb := h2.ob
  rcases find_run T hS ha hx w with ⟨hl, _, hr⟩ | ⟨i, u, hl, hi, _, hr⟩
  · refine ⟨_, ?_, hk _ (mapH.shut (m := m ++ [(x, v)]) ⟨?_, ?_, ?_, ?_⟩ (h2.putObj (.map (a.push { key := kf x, val := vf v, born := clk }) (clk + 1))))⟩
    · simp [Instr.mapUpdate, run_underlying T.ht, run_getMap hb, T.chk _ _ _ hx, hr, run_setMap hb]
    · rw [List.map_append, List.nodup_append]
      refine ⟨hnd, by simp, fun p hp q hq e => ?_⟩
      simp at hq
      subst hq
      subst e
      exact lookup_none hl hp
    · intro p hp
      rcases List.mem_append.1 hp with hp | hp
      · exact hS p hp
      · rw [List.mem_singleton] at hp; subst hp; exact hx
    · intro y
      rw [lookup_append_new hl, upd, hm]
    · simp [ha]
  · have hai : (a.toList)[i]? = some ⟨kf x, vf u, ((a.toList)[i]?.map (·.born)).getD 0⟩ := by
      have h3 := congrArg (fun l => l[i]?) ha
      simp only [List.getElem?_map, hi, Option.map_some] at h3
      obtain ⟨en, hen, e2⟩ := Option.map_eq_some_iff.1 h3
      rw [hen]
      simp only [Prod.mk.injEq] at e2
      cases en
      simp at e2
      simp [e2]
    have hak : (a[i]?.map (·.key)).getD (kf x) = kf x := by
      rw [← Array.getElem?_toList, hai]; rfl
    refine ⟨_, ?_, hk _ (mapH.shut (m := m.set i (x, v)) ⟨?_, ?_, ?_, ?_⟩ (h2.putObj (.map (a.modify i fun e => { e with key := kf x, val := vf v }) clk)))⟩
    · simp only [Instr.mapUpdate, Sem.run_bind, run_underlying T.ht, run_getMap hb, T.chk _ _ _ hx, hr, Result.andThen_ok, hak, T.stays _ _ hx, run_setMap hb]
    · have e : (m.set i (x, v)).map (·.1) = m.map (·.1) := by
        rw [List.map_set]
        apply List.ext_getElem?
        intro j
        rw [List.getElem?_set]
        split
        · rename_i e
          subst e
          rw [List.getElem?_map, hi, if_pos (by simpa using (List.getElem?_eq_some_iff.1 hi).1)]
          rfl
        · rfl
      rw [e]
      exact hnd
    · intro p hp
      rcases List.mem_or_eq_of_mem_set hp with hp | rfl
      · exact hS p hp
      · exact hx
    · intro y
      rw [lookup_set hnd hi, upd, hm]
    · apply List.ext_getElem?
      intro j
      have h3 := congrArg (fun l => l[j]?) ha
      simp only [List.getElem?_map] at h3
      simp only [List.getElem?_map, Array.getElem?_toList, Array.getElem?_modify, List.getElem?_set] at h3 ⊢
      by_cases e : i = j
      · subst e
        have hlt := (List.getElem?_eq_some_iff.1 hi).1
        rw [← Array.getElem?_toList, hai]
        simp [hlt]
      · simp only [e, if_false]
        exact h3
theorem delM_ok (T : KeyTy P t k e kf S) {x : κ} {ts : Array TypeId} {ty : TypeId} (hts : ts[0]? = some t) {K : World → Prop} (h : Sat w₀ (mapH kf vf S r f * F) w) (hx : S x) (hk : ∀ w', Sat w₀ (mapH kf vf S r (upd f x none) * F) w' → K w') : delM P ts ty (some r) (kf x) w K := by
  obtain ⟨a, clk, m, ⟨hnd, hS, hm, ha⟩, h2⟩ := mapH.open_ h
  have hb := h2.ob
  rcases find_run T hS ha hx w with ⟨hl, _, hr⟩ | ⟨i, u, hl, hi, _, hr⟩
  · refine ⟨_, ?_, hk _ (mapH.shut (m := m) ⟨hnd, hS, ?_, ha⟩ (h2.putObj (.map a clk)))⟩
    · simp [Builtin.delete_, hts, run_underlying T.ht, run_getMap hb, T.chk _ _ _ hx, hr, run_setMap hb]
    · intro y
      rw [hm, upd]
      split
      · rename_i e; subst e; rw [← hm]; exact hl
      · rfl
  · refine ⟨_, ?_, hk _ (mapH.shut (m := m.eraseIdx i) ⟨?_, ?_, ?_, ?_⟩ (h2.putObj (.map (a.eraseIdxIfInBounds i) clk)))⟩
    · simp [Builtin.delete_, hts, run_underlying T.ht, run_getMap hb, T.chk _ _ _ hx, hr, run_setMap hb]
    · rw [map_eraseIdx]
      exact hnd.sublist (List.eraseIdx_sublist _ _)
    · exact fun p hp => hS p (List.mem_of_mem_eraseIdx hp)
    · intro y
      rw [lookup_erase hnd hi, upd, hm]
    · have e : (a.eraseIdxIfInBounds i).toList = a.toList.eraseIdx i := by
        have hlt := (List.getElem?_eq_some_iff.1 hi).1
        have hlen := congrArg List.length ha
        simp at hlen
        simp [Array.eraseIdxIfInBounds, show i < a.size by omega]
      rw [e, map_eraseIdx, ha, map_eraseIdx]
end
/-- Keys that are numbers. -/
theorem keyInt {P : Program} {t k e : TypeId} {q : IntKind} (ht : P.underlying t = some (.map k e)) (hk : P.underlying k = some (.int q)) : KeyTy P t k e (fun x : Int => Value.int q x) (fun _ => True) := by
  refine ⟨ht, fun b x w _ => ?_, fun x l ks w _ _ h => ?_, fun x w _ => ?_⟩
  · obtain ⟨n, hn⟩ : ∃ n, 10000 = n + 1 := ⟨9999, rfl⟩
    rw [hn]
    simp [Instr.checkKey, run_underlying hk]
  · have key : ∀ (l : List MapEntry) (ks : List Int) (j : Nat), l.map (·.key) = ks.map (fun x => Value.int q x) → Instr.findNow (.int q) (.int q x) l j = some (match ks.findIdx? (fun y => decide (y = x)) with | some i => (l[i]?).map fun e => (i + j, e.val) | none => none) := by
      intro l
      induction l with
      | nil => intro ks j h; have : ks = [] := by simpa using h.symm
               subst this; rfl
      | cons en l ih =>
        intro ks j h
        cases ks with
        | nil => simp at h
        | cons y ks =>
          simp only [List.map_cons, List.cons.injEq] at h
          rw [Instr.findNow, h.1]
          simp only [Instr.sameNow, if_true]
          rw [List.findIdx?_cons]
          by_cases e : y = x
          · subst e; simp
          · have e1 : (x == y) = false := by simpa using fun h => e h.symm
            simp only [e1, e, decide_false, Bool.false_eq_true, if_false]
            rw [ih ks (j + 1) h.2]
            cases ks.findIdx? fun y => decide (y = x) with
            | none => rfl
            | some i => simp [Nat.add_assoc, Nat.add_comm 1 j]
    simp only [Instr.findKey, Sem.run_bind, run_underlying hk, Result.andThen_ok, key l ks 0 h, Nat.add_zero, Sem.run_pure]
  · obtain ⟨n, hn⟩ : ∃ n, 10000 = n + 1 := ⟨9999, rfl⟩
    have : Instr.sameBits 10000 (.int q x) (.int q x) = true := by rw [hn]; simp [Instr.sameBits]
    simp [Instr.keyThatStays, this]
end Go.Sp
