/- NetOnce: plain laws: each that was sent comes fresh just once. No conditions. -/
import Derived.Test.YtjjnbcdcppnllaaN6
set_option linter.unusedVariables false
set_option linter.unusedSimpArgs false
set_option maxRecDepth 100000
namespace Go.Proofs.Ytjjnbcdcppnllaa
open Go.Sp Go.RowKit

structure OI (M : NM) (sent came : List PK) : Prop where
  nd : (sent.map mkOf).Nodup
  sq : ∀ x ∈ sent, x.sq ≤ (M.sent (x.fr, x.to)).getD 0
  row : ∀ x ∈ M.row, x ∈ sent
  cam : ∀ m, M.came m = some () ↔ ∃ x ∈ came, mkOf x = m
  sub : ∀ x ∈ came, x ∈ sent
  cnd : (came.map mkOf).Nodup
  all : ∀ x ∈ sent, x ∈ M.row ∨ x ∈ came
theorem OI.start {most : Int} : OI ⟨most, [], fun _ => none, fun _ => none⟩ [] [] :=
  ⟨List.nodup_nil, (fun x hx => by cases hx), (fun x hx => by cases hx), (fun m => by simp), (fun x hx => by cases hx), List.nodup_nil, (fun x hx => by cases hx)⟩
section
variable {M : NM} {sent came : List PK}
theorem OI.same (h : OI M sent came) {x y : PK} (hx : x ∈ sent) (hy : y ∈ sent) (e : mkOf x = mkOf y) : x = y := by
  obtain ⟨i, hi⟩ := List.mem_iff_getElem?.1 hx
  obtain ⟨j, hj⟩ := List.mem_iff_getElem?.1 hy
  have hil := (List.getElem?_eq_some_iff.1 hi).1
  have := (List.getElem?_inj (i := i) (j := j) (by simpa using hil) h.nd).1 (by rw [List.getElem?_map, List.getElem?_map, hi, hj, Option.map_some, Option.map_some, e])
  subst this
  rw [hi] at hj
  exact Option.some.inj hj
theorem OI.send (h : OI M sent came) {x : PK} : (sendM M x).2.2 = 0 → OI (sendM M x).1 (sent ++ [sqP x (sendM M x).2.1]) came := by
  unfold sendM
  split
  · intro e; cases e
  · split
    · intro e; cases e
    · intro _
      dsimp only
      obtain ⟨k, hk⟩ : ∃ k, k = nx M (x.fr, x.to) := ⟨_, rfl⟩
      have hk2 : k = (M.sent (x.fr, x.to)).getD 0 + 1 := hk
      rw [← hk]
      refine ⟨?_, fun y hy => ?_, fun y hy => ?_, h.cam, fun y hy => List.mem_append.2 (.inl (h.sub y hy)), h.cnd, fun y hy => ?_⟩
      · rw [List.map_append]
        refine List.nodup_append.2 ⟨h.nd, by simp, fun a ha b hb e => ?_⟩
        obtain ⟨y, hy, rfl⟩ := List.mem_map.1 ha
        have hb : b = mkOf (sqP x k) := by simpa using hb
        rw [hb] at e
        have e1 : y.fr = x.fr ∧ y.to = x.to ∧ y.sq = k := by
          have := Prod.ext_iff.1 e
          have h2 := Prod.ext_iff.1 this.1
          exact ⟨h2.1, h2.2, this.2⟩
        have := h.sq y hy
        rw [e1.1, e1.2.1] at this
        omega
      · dsimp only
        unfold upd
        rcases List.mem_append.1 hy with hy | hy
        · have := h.sq y hy
          split
          · rename_i e
            rw [e] at this
            simp only [Option.getD_some]
            omega
          · exact this
        · rw [List.mem_singleton] at hy
          subst hy
          rw [if_pos (show ((sqP x k).fr, (sqP x k).to) = (x.fr, x.to) from rfl)]
          exact Int.le_refl _
      · rcases List.mem_append.1 hy with hy | hy
        · exact List.mem_append.2 (.inl (h.row y hy))
        · exact List.mem_append.2 (.inr hy)
      · rcases List.mem_append.1 hy with hy | hy
        · rcases h.all y hy with q | q
          · exact .inl (List.mem_append.2 (.inl q))
          · exact .inr q
        · exact .inl (List.mem_append.2 (.inr hy))
theorem OI.dbl (h : OI M sent came) {i : Int} : OI (dblM M i).1 sent came := by
  unfold dblM
  split
  · rename_i x hx
    split
    · exact h
    · refine ⟨h.nd, h.sq, fun y hy => ?_, h.cam, h.sub, h.cnd, fun y hy => ?_⟩
      · rcases List.mem_append.1 hy with hy | hy
        · exact h.row y hy
        · rw [List.mem_singleton] at hy; subst hy; exact h.row _ (List.mem_of_getElem? hx)
      · rcases h.all y hy with q | q
        · exact .inl (List.mem_append.2 (.inl q))
        · exact .inr q
  · exact h
/-- One comes: fresh, or it came. -/
theorem OI.del (h : OI M sent came) {i : Int} : (delM' M i).2.2.2 = 0 → OI (delM' M i).1 sent (if (delM' M i).2.2.1 = true then came ++ [(delM' M i).2.1] else came) := by
  by_cases he : M.row = []
  · intro e
    rw [delM', loseM_none he] at e
    exact absurd e (by simp)
  · intro _
    obtain ⟨x, hx, hlo⟩ := loseM_some (i := i) he
    have hxs := h.row x (List.mem_of_getElem? hx)
    obtain ⟨k, hk⟩ : ∃ k, k = (pkI i M.row.length).toNat := ⟨_, rfl⟩
    rw [← hk] at hx hlo
    have hrow : ∀ y, y ∈ M.row → y ∈ M.row.eraseIdx k ∨ y = x := fun y hy => by
      obtain ⟨j, hj⟩ := List.mem_iff_getElem?.1 hy
      by_cases e : j = k
      · subst e
        rw [hx] at hj
        exact .inr (Option.some.inj hj).symm
      · refine .inl (List.mem_iff_getElem?.2 ?_)
        by_cases q : j < k
        · exact ⟨j, by rw [List.getElem?_eraseIdx, if_pos q]; exact hj⟩
        · exact ⟨j - 1, by rw [List.getElem?_eraseIdx, if_neg (by omega), show j - 1 + 1 = j by omega]; exact hj⟩
    have e : delM' M i = ({ M with row := M.row.eraseIdx k, came := upd M.came (mkOf x) (some ()) }, x, !(M.came (mkOf x)).isSome, 0) := by
      rw [delM', hlo]
      rfl
    rw [e]
    dsimp only
    cases hc : M.came (mkOf x) with
    | none =>
      have hnc : ∀ y ∈ came, mkOf y ≠ mkOf x := fun y hy q => by
        have := (h.cam (mkOf x)).2 ⟨y, hy, q⟩
        rw [hc] at this
        cases this
      rw [if_pos (show (!(none : Option Unit).isSome) = true from rfl)]
      refine ⟨h.nd, h.sq, fun y hy => h.row y (List.mem_of_mem_eraseIdx hy), fun m => ?_, fun y hy => ?_, ?_, fun y hy => ?_⟩
      · dsimp only
        unfold upd
        by_cases q : m = mkOf x
        · rw [if_pos q]
          exact ⟨fun _ => ⟨x, by simp, q.symm⟩, fun _ => rfl⟩
        · rw [if_neg q, h.cam]
          constructor
          · rintro ⟨y, hy, e⟩; exact ⟨y, List.mem_append.2 (.inl hy), e⟩
          · rintro ⟨y, hy, e3⟩
            rcases List.mem_append.1 hy with hy | hy
            · exact ⟨y, hy, e3⟩
            · rw [List.mem_singleton] at hy
              rw [hy] at e3
              exact absurd e3.symm q
      · rcases List.mem_append.1 hy with hy | hy
        · exact h.sub y hy
        · rw [List.mem_singleton] at hy; subst hy; exact hxs
      · rw [List.map_append]
        refine List.nodup_append.2 ⟨h.cnd, by simp, fun a ha b hb e => ?_⟩
        obtain ⟨y, hy, rfl⟩ := List.mem_map.1 ha
        have hb : b = mkOf x := by simpa using hb
        exact hnc y hy (e.trans hb)
      · rcases h.all y hy with q | q
        · rcases hrow y q with q | q
          · exact .inl q
          · exact .inr (List.mem_append.2 (.inr (by simp [q])))
        · exact .inr (List.mem_append.2 (.inl q))
    | some u =>
      obtain ⟨z, hz, hzx⟩ := (h.cam (mkOf x)).1 hc
      have hzx : z = x := h.same (h.sub z hz) hxs hzx
      subst hzx
      rw [if_neg (by simp)]
      refine ⟨h.nd, h.sq, fun y hy => h.row y (List.mem_of_mem_eraseIdx hy), fun m => ?_, h.sub, h.cnd, fun y hy => ?_⟩
      · dsimp only
        unfold upd
        by_cases q : m = mkOf z
        · rw [if_pos q]
          exact ⟨fun _ => ⟨z, hz, q.symm⟩, fun _ => rfl⟩
        · rw [if_neg q, h.cam]
      · rcases h.all y hy with q | q
        · rcases hrow y q with q | q
          · exact .inl q
          · exact .inr (q ▸ hz)
        · exact .inr q
theorem nodup_le {α : Type} [DecidableEq α] : ∀ (l m : List α), l.Nodup → (∀ a ∈ l, a ∈ m) → l.length ≤ m.length
  | [], m, _, _ => Nat.zero_le _
  | a :: l, m, hn, hm => by
    rw [List.nodup_cons] at hn
    have ha := hm a (.head _)
    have ih := nodup_le l (m.erase a) hn.2 fun b hb => (List.mem_erase_of_ne (show b ≠ a from fun e => hn.1 (e ▸ hb))).2 (hm b (.tail _ hb))
    rw [List.length_erase_of_mem ha] at ih
    have := List.length_pos_of_mem ha
    rw [List.length_cons]
    omega
theorem nodup_of_map {l : List PK} (h : (l.map mkOf).Nodup) : l.Nodup := by
  rw [List.nodup_iff_pairwise_ne, List.pairwise_map] at h
  rw [List.nodup_iff_pairwise_ne]
  exact h.imp fun hne e => hne (by rw [e])
theorem OI.le (h : OI M sent came) : came.length ≤ sent.length :=
  nodup_le _ _ (nodup_of_map h.cnd) h.sub
theorem OI.done (h : OI M sent came) (hr : M.row = []) : came.length = sent.length ∧ ∀ x ∈ sent, came.count x = 1 := by
  have h1 : ∀ x ∈ sent, x ∈ came := fun x hx => (h.all x hx).elim (fun q => by rw [hr] at q; cases q) id
  refine ⟨Nat.le_antisymm h.le (nodup_le _ _ (nodup_of_map h.nd) h1), fun x hx => ?_⟩
  have := List.nodup_iff_count.1 (nodup_of_map h.cnd) x
  have := List.count_pos_iff.2 (h1 x hx)
  omega
end
end Go.Proofs.Ytjjnbcdcppnllaa
