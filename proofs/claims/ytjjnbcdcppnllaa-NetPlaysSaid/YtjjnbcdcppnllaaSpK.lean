/- Maps whose keys are asked for by their equality; clear; a slice with a capacity. No conditions. -/
import Derived.Test.YtjjnbcdcppnllaaSpM
import Derived.Test.YtjjnbcdcppnllaaSpB
set_option linter.unusedVariables false
set_option linter.unusedSimpArgs false
set_option maxRecDepth 100000
namespace Go.Sp
open Go.RowKit

theorem findNow_none {d : TypeDesc} {k : Value} (h : ∀ v, Instr.sameNow d k v = none) : ∀ (l : List MapEntry) (i : Nat), Instr.findNow d k l i = if l = [] then some none else none
  | [], i => by simp [Instr.findNow]
  | e :: l, i => by simp [Instr.findNow, h]
theorem findAsking_run {P : Program} {k : TypeId} {κ : Type} [DecidableEq κ] {kf : κ → Value} (heq : ∀ x y w, (Op.equal k (kf x) (kf y)).run P w = .ok (decide (x = y)) w) (x : κ) : ∀ (l : List MapEntry) (ks : List κ) (j : Nat) (w : World), l.map (·.key) = ks.map kf →
    (Instr.findAsking k (kf x) l j).run P w = .ok (match ks.findIdx? (fun y => decide (y = x)) with | some i => (l[i]?).map fun e => (i + j, e.val) | none => none) w
  | [], ks, j, w, h => by
    have : ks = [] := by simpa using h.symm
    subst this
    simp [Instr.findAsking]
  | en :: l, [], j, w, h => by simp at h
  | en :: l, y :: ks, j, w, h => by
    simp only [List.map_cons, List.cons.injEq] at h
    have ih := findAsking_run heq x l ks (j + 1) w h.2
    simp only [Instr.findAsking, Sem.run_bind, h.1, heq, Result.andThen_ok]
    by_cases e : x = y
    · subst e
      simp [List.findIdx?_cons]
    · have e2 : ¬ y = x := fun q => e q.symm
      simp only [e, decide_false, Bool.false_eq_true, if_false]
      rw [ih, List.findIdx?_cons]
      simp only [e2, decide_false, Bool.false_eq_true, if_false]
      cases ks.findIdx? (fun y => decide (y = x)) with
      | none => rfl
      | some i =>
        simp only [Option.map_some, List.getElem?_cons_succ]
        congr 2
        funext z
        congr 1
        omega
/-- Keys that are structs. -/
theorem keyAsk {P : Program} {t k e : TypeId} {fs : Array Field} {κ : Type} [DecidableEq κ] {kf : κ → Value} (ht : P.underlying t = some (.map k e)) (hk : P.underlying k = some (.struct fs)) (hchk : ∀ b x w, (Instr.checkKey b 10000 k (kf x)).run P w = .ok () w)
    (heq : ∀ x y w, (Op.equal k (kf x) (kf y)).run P w = .ok (decide (x = y)) w) (hbits : ∀ x, Instr.sameBits 10000 (kf x) (kf x) = true) : KeyTy P t k e kf (fun _ => True) := by
  refine ⟨ht, fun b x w _ => hchk b x w, fun x l ks w _ _ h => ?_, fun x w _ => ?_⟩
  · have hn : ∀ v, Instr.sameNow (.struct fs) (kf x) v = none := fun v => by unfold Instr.sameNow; rfl
    have ha := findAsking_run heq x l ks 0 w h
    simp only [Instr.findKey, Sem.run_bind, run_underlying hk, Result.andThen_ok, findNow_none hn]
    by_cases hl : l = []
    · subst hl
      have : ks = [] := by simpa using h.symm
      subst this
      simp
    · simp only [hl, if_false]
      rw [ha]
      cases ks.findIdx? (fun y => decide (y = x)) <;> rfl
  · simp [Instr.keyThatStays, hbits]
end Go.Sp
