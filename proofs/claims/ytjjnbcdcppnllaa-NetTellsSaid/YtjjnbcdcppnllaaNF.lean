/- The net and the document's: how they go together. No conditions. -/
import Derived.Test.YtjjnbcdcppnllaaNE
set_option linter.unusedVariables false
set_option linter.unusedSimpArgs false
set_option maxRecDepth 100000
namespace Go.Proofs.Ytjjnbcdcppnllaa
open Go.Sp Go.RowKit

structure RB (W : World) (n : Int) (M : NM) (X : RN) : Prop where
  most : M.most = X.most
  row : M.row = X.row.map (·.x)
  sent : ∀ x : PK, (M.sent (x.fr, x.to)).getD 0 = (rdN X.sent x : Int)
  came : ∀ m, M.came m = some () ↔ ∃ y ∈ X.came, mkOf y.x = m
  ok : NOk M n
  ls : (X.sent.length : Int) ≤ n
  lc : (X.came.length : Int) ≤ n
  lr : (X.row.length : Int) ≤ n
  gr : PQs (old W) X.row
section
variable {W : World} {n : Int} {M : NM} {X : RN}
theorem RB.len (h : RB W n M X) : M.row.length = X.row.length := by rw [h.row, List.length_map]
theorem RB.rl (h : RB W n M X) : X.row.length ≤ 65536 := by
  have h1 := h.ok.len
  have h2 := h.ok.m1
  have h3 := h.len
  omega
theorem RB.mono {m : Int} (h : RB W n M X) (hm : n ≤ m) : RB W m M X := ⟨h.most, h.row, h.sent, h.came, h.ok.mono hm, by have := h.ls; omega, by have := h.lc; omega, by have := h.lr; omega, h.gr⟩
theorem RB.start {most : Int} (h0 : 1 ≤ most) (h1 : most ≤ 65536) : RB W 0 ⟨most, [], fun _ => none, fun _ => none⟩ ⟨most, [], [], []⟩ :=
  ⟨rfl, rfl, (fun x => rfl), (fun m => by simp), ⟨h0, h1, by show ((0 : Nat) : Int) ≤ most; omega, (fun x hx => by cases hx), (fun r k h => by cases h)⟩, Int.le_refl 0, Int.le_refl 0, Int.le_refl 0, (fun q hq => by cases hq)⟩
theorem rdN_snoc (l : List PQ) (q : PQ) (x : PK) : rdN (l ++ [q]) x = rdN l x + if q.x.fr = x.fr ∧ q.x.to = x.to then 1 else 0 := by
  rw [rdN, rdN, List.countP_append]
  congr 1
  simp [List.countP_cons]
theorem rdN_road (l : List PQ) {x y : PK} (h1 : x.fr = y.fr) (h2 : x.to = y.to) : rdN l x = rdN l y := by rw [rdN, rdN, h1, h2]
theorem upd_at {κ ν : Type} [DecidableEq κ] (f : κ → Option ν) (k : κ) (v : Option ν) (j : κ) : upd f k v j = if j = k then v else f j := rfl
theorem RB.send {q : PQ} (h : RB W n M X) (hx : PIn q.x) (n0 : 0 ≤ n) (hn : n ≤ 10000) (hl : q.l ≤ 5) (hg : Gives (old W) 36 q.p q.l (q.x.rs.flatMap orC)) :
    RB W (n + 1) (sendM M q.x).1 (sendR X q).1 ∧ (sendM M q.x).2 = (sendR X q).2 := by
  obtain ⟨q1, _, _⟩ := h.ok.send hx n0 hn
  have hs := h.ls
  have hc := h.lc
  have hw := h.lr
  have e : nx M (q.x.fr, q.x.to) = (rdN X.sent q.x : Int) + 1 := by rw [nx, h.sent]
  obtain ⟨N, hN⟩ : ∃ N : Int, N = (rdN X.sent q.x : Int) + 1 := ⟨_, rfl⟩
  by_cases hr : RightP (sqP q.x N)
  · by_cases hm : X.most ≤ (X.row.length : Int)
    · have e1 : sendM M q.x = (M, 0, 3) := by rw [sendM, e, ← hN, if_neg (fun z => z hr), if_pos (by rw [h.len, h.most]; exact hm)]
      have e2 : sendR X q = (X, 0, 3) := by rw [sendR, ← hN, if_neg (fun z => z hr), if_pos hm]
      rw [e1, e2]
      exact ⟨h.mono (by omega), rfl⟩
    · have e1 : sendM M q.x = ({ M with row := M.row ++ [sqP q.x N], sent := upd M.sent (q.x.fr, q.x.to) (some N) }, N, 0) := by rw [sendM, e, ← hN, if_neg (fun z => z hr), if_neg (by rw [h.len, h.most]; exact hm)]
      have e2 : sendR X q = ({ X with row := X.row ++ [sqQ q N], sent := X.sent ++ [sqQ q N] }, N, 0) := by rw [sendR, ← hN, if_neg (fun z => z hr), if_neg hm]
      rw [e1] at q1
      rw [e1, e2]
      refine ⟨⟨h.most, ?_, fun x => ?_, h.came, q1, ?_, ?_, ?_, ?_⟩, rfl⟩
      · dsimp only
        rw [h.row, List.map_append]
        rfl
      · dsimp only
        rw [upd_at, rdN_snoc]
        have ex : (sqQ q N).x.fr = q.x.fr := rfl
        have ey : (sqQ q N).x.to = q.x.to := rfl
        rw [ex, ey]
        by_cases hq : q.x.fr = x.fr ∧ q.x.to = x.to
        · rw [if_pos (by rw [hq.1, hq.2]), if_pos hq, Option.getD_some, hN, rdN_road _ hq.1 hq.2]
          rfl
        · rw [if_neg (fun z => hq ⟨(Prod.mk.inj z).1.symm, (Prod.mk.inj z).2.symm⟩), if_neg hq, h.sent]
          rfl
      · dsimp only; rw [List.length_append, List.length_singleton]; omega
      · dsimp only; omega
      · dsimp only; rw [List.length_append, List.length_singleton]; omega
      · dsimp only
        refine h.gr.snoc (by show q.l ≤ 1000; omega) ?_
        have e2 : (sqQ q N).x.rs = q.x.rs := rfl
        rw [e2]
        exact hg
  · have e1 : sendM M q.x = (M, 0, 5) := by rw [sendM, e, ← hN, if_pos hr]
    have e2 : sendR X q = (X, 0, 5) := by rw [sendR, ← hN, if_pos hr]
    rw [e1, e2]
    exact ⟨h.mono (by omega), rfl⟩
theorem map_eraseIdx' {α β : Type} (f : α → β) : ∀ (l : List α) (k : Nat), (l.map f).eraseIdx k = (l.eraseIdx k).map f
  | [], _ => rfl
  | _ :: _, 0 => rfl
  | x :: l, k + 1 => by simp [map_eraseIdx' f l k]
def takX (X : RN) (i : Int) : RN := { X with row := X.row.eraseIdx (pkI i X.row.length).toNat }
theorem RB.take {i : Int} (h : RB W n M X) (hne : X.row ≠ []) : ∃ q, X.row[(pkI i X.row.length).toNat]? = some q ∧ q ∈ X.row ∧ (loseM M i).2 = (q.x, 0) ∧ (loseM M i).1.came = M.came ∧ RB W n (loseM M i).1 (takX X i) := by
  have hM : M.row ≠ [] := fun e => hne (by have := h.row; rw [e] at this; exact List.map_eq_nil_iff.1 this.symm)
  obtain ⟨x, hx, hlo⟩ := loseM_some (i := i) hM
  have hok := (h.ok.lose (i := i)).1
  rw [hlo] at hok ⊢
  rw [h.len, h.row, List.getElem?_map] at hx
  obtain ⟨q, hq, rfl⟩ := Option.map_eq_some_iff.1 hx
  refine ⟨q, hq, List.mem_of_getElem? hq, rfl, rfl, h.most, ?_, h.sent, h.came, hok, h.ls, h.lc, by have := h.lr; have h2 := List.length_eraseIdx_le (l := X.row) (i := (pkI i X.row.length).toNat); show ((X.row.eraseIdx _).length : Int) ≤ n; omega, fun z hz => h.gr z (List.mem_of_mem_eraseIdx hz)⟩
  show M.row.eraseIdx _ = ((X.row.eraseIdx _).map (·.x))
  rw [h.len, h.row, map_eraseIdx']
theorem RB.fresh {i : Int} (h : RB W n M X) (hne : X.row ≠ []) : ∃ q, X.row[(pkI i X.row.length).toNat]? = some q ∧ q ∈ X.row ∧ (delM' M i).2 = (q.x, freshR (takX X i) q, 0) ∧ RB W (n + 1) (delM' M i).1 (freshX (takX X i) q) := by
  obtain ⟨q, hq, hmem, h2, hc, hb⟩ := h.take (i := i) hne
  have hok := (h.ok.del (i := i)).1
  have hd : delM' M i = ({ (loseM M i).1 with came := upd M.came (mkOf q.x) (some ()) }, q.x, !(M.came (mkOf q.x)).isSome, 0) := by
    rw [delM', h2, if_pos rfl]
  rw [hd] at hok ⊢
  have hls := hb.ls
  have hlc := hb.lc
  have hlr := hb.lr
  have hf : freshR (takX X i) q = !(M.came (mkOf q.x)).isSome := by
    cases hz : M.came (mkOf q.x) with
    | none =>
      rw [freshR, decide_eq_true]
      · rfl
      · intro y hy e
        have := (h.came (mkOf q.x)).2 ⟨y, hy, e⟩
        rw [hz] at this
        cases this
    | some u =>
      obtain ⟨y, hy, e⟩ := (h.came (mkOf q.x)).1 hz
      rw [freshR, decide_eq_false]
      · rfl
      · intro z
        exact z y hy e
  refine ⟨q, hq, hmem, by rw [hf], ?_⟩
  rw [freshX]
  by_cases hz : freshR (takX X i) q = true
  · rw [if_pos hz]
    refine ⟨hb.most, hb.row, hb.sent, fun m => ?_, hok.mono (by omega), by show ((takX X i).sent.length : Int) ≤ n + 1; omega, by dsimp only; rw [List.length_append, List.length_singleton]; omega, by show ((takX X i).row.length : Int) ≤ n + 1; omega, hb.gr⟩
    dsimp only
    rw [upd_at]
    by_cases hm : m = mkOf q.x
    · subst hm
      rw [if_pos rfl]
      exact ⟨fun _ => ⟨q, by simp, rfl⟩, fun _ => rfl⟩
    · rw [if_neg hm, h.came]
      exact ⟨fun ⟨y, hy, e⟩ => ⟨y, List.mem_append.2 (.inl hy), e⟩, fun ⟨y, hy, e⟩ => (List.mem_append.1 hy).elim (fun hy => ⟨y, hy, e⟩) fun hy => by rw [List.mem_singleton] at hy; subst hy; exact absurd e.symm hm⟩
  · rw [if_neg hz]
    refine ⟨hb.most, hb.row, hb.sent, fun m => ?_, hok.mono (by omega), by omega, by omega, by omega, hb.gr⟩
    dsimp only
    rw [upd_at]
    by_cases hm : m = mkOf q.x
    · subst hm
      rw [if_pos rfl]
      refine ⟨fun _ => ?_, fun _ => rfl⟩
      rw [hf] at hz
      refine (h.came _).1 ?_
      cases hy : M.came (mkOf q.x) with
      | none => rw [hy] at hz; exact absurd rfl hz
      | some u => rfl
    · rw [if_neg hm]
      exact h.came m
def dblX (X : RN) (i : Int) : RN × Int := match X.row[(pkI i X.row.length).toNat]? with
  | some q => if X.most ≤ X.row.length then (X, 3) else ({ X with row := X.row ++ [q] }, 0)
  | none => (X, 12)
theorem RB.dbl {i : Int} (h : RB W n M X) : RB W (n + 1) (dblM M i).1 (dblX X i).1 ∧ (dblM M i).2 = (dblX X i).2 := by
  obtain ⟨q1, _, _⟩ := h.ok.dbl (i := i)
  have hls := h.ls
  have hlc := h.lc
  have hlr := h.lr
  have hl := h.len
  have hrw := h.row
  cases hq : X.row[(pkI i X.row.length).toNat]? with
  | none =>
    have e0 : M.row[(pkI i M.row.length).toNat]? = none := by rw [hl, hrw, List.getElem?_map, hq]; rfl
    have e1 : dblM M i = (M, 12) := by rw [dblM, e0]
    have e2 : dblX X i = (X, 12) := by rw [dblX, hq]
    rw [e1, e2]
    exact ⟨h.mono (by omega), rfl⟩
  | some q =>
    have e0 : M.row[(pkI i M.row.length).toNat]? = some q.x := by rw [hl, hrw, List.getElem?_map, hq]; rfl
    by_cases hm : X.most ≤ (X.row.length : Int)
    · have e1 : dblM M i = (M, 3) := by rw [dblM, e0]; dsimp only; rw [if_pos (by rw [hl, h.most]; exact hm)]
      have e2 : dblX X i = (X, 3) := by rw [dblX, hq]; dsimp only; rw [if_pos hm]
      rw [e1, e2]
      exact ⟨h.mono (by omega), rfl⟩
    · have e1 : dblM M i = ({ M with row := M.row ++ [q.x] }, 0) := by rw [dblM, e0]; dsimp only; rw [if_neg (by rw [hl, h.most]; exact hm)]
      have e2 : dblX X i = ({ X with row := X.row ++ [q] }, 0) := by rw [dblX, hq]; dsimp only; rw [if_neg hm]
      rw [e1] at q1
      rw [e1, e2]
      refine ⟨⟨h.most, ?_, h.sent, h.came, q1.mono (by omega), by dsimp only; omega, by dsimp only; omega, by dsimp only; rw [List.length_append, List.length_singleton]; omega, ?_⟩, rfl⟩
      · dsimp only; rw [hrw, List.map_append]; rfl
      · dsimp only
        obtain ⟨h1, h2⟩ := h.gr q (List.mem_of_getElem? hq)
        exact h.gr.snoc h1 h2
end
end Go.Proofs.Ytjjnbcdcppnllaa
