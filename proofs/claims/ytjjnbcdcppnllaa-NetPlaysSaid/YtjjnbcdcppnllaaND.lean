/- The document's net: Fresh, Send. No conditions. -/
import Derived.Test.YtjjnbcdcppnllaaNC
set_option linter.unusedVariables false
set_option linter.unusedSimpArgs false
set_option maxRecDepth 100000
namespace Go.Proofs.Ytjjnbcdcppnllaa
open Go.Sp Go.RowKit

def freshR (X : RN) (q : PQ) : Bool := decide (∀ y ∈ X.came, mkOf y.x ≠ mkOf q.x)
def freshX (X : RN) (q : PQ) : RN := if freshR X q then { X with came := X.came ++ [q] } else X
def rdN (l : List PQ) (x : PK) : Nat := l.countP fun y => decide (y.x.fr = x.fr ∧ y.x.to = x.to)
section
variable {w₀ w : World} {F : HP} {r : Nat} {X : RN}
theorem ref_Fresh_ok {q : PQ} (h : Sat w₀ (RNet r X * F) w) (hl : X.came.length ≤ 70000) :
    call Try.prog fn_tenonref23_Net_Fresh #[.pointer (some ⟨r, 0, none⟩), .agg (pkF q.x (.slice q.p q.l q.c))] w fun v w' => v = .bool (freshR X q) ∧ Sat w₀ (RNet r (freshX X q) * F) w' := by
  apply tenonref23_Net_Fresh_call
  unfold tenonref23_Net_Fresh
  refine new_ok h fun k1 w1 h1 => ?_
  have h1 : Sat w₀ (blk k1 (pkF q.x (.slice q.p q.l q.c)) T_api_Packet * (RNet r X * F)) w1 := h1
  obtain ⟨p, c, p2, c2, p3, c3, h2⟩ := RNet.open_ (h1.perm (B := RNet r X * (blk k1 (pkF q.x (.slice q.p q.l q.c)) T_api_Packet * F)) (by ac_rfl))
  refine ⟨fun n w m => 0 ≤ n ∧ n ≤ X.came.length ∧ m = (X.came.length - n).toNat ∧ (∀ (j : Nat) y, (j : Int) < n → X.came[j]? = some y → mkOf y.x ≠ mkOf q.x) ∧ Sat w₀ (blk r (rA X.most p X.row.length c p2 X.sent.length c2 p3 X.came.length c3) T_tenonref23_Net * (pqT p X.row.length c X.row * (pqT p2 X.sent.length c2 X.sent * (pqT p3 X.came.length c3 X.came * (blk k1 (pkF q.x (.slice q.p q.l q.c)) T_api_Packet * F))))) w, ⟨_, by decide, by omega, rfl, (fun j y hj => absurd hj (by omega)), h2⟩, ?_⟩
  clear h1 h2
  rintro u n w2 m ⟨n0, nl, rfl, hno, h2⟩
  have hk := h2.right.right.right.right
  refine nn_ok <| ldS_ok (cell_blk h2 (i := 3) rfl) <| br_dec (fun hlt => ?_) (fun hge => ?_)
  · obtain ⟨y, hy⟩ : ∃ y, X.came[n.toNat]? = some y := ⟨_, List.getElem?_eq_getElem (by omega)⟩
    have h2 := h2.drew
    have hk := h2.right.right.right.right
    have ht : Sat w₀ (tab T_api_Packet 25 pqF p3 X.came.length c3 X.came) w2.drew := h2.right.right.right.left
    have step : mkOf y.x ≠ mkOf q.x → ∀ {G : Int → Prop}, (∀ n', n' = n + 1 → (∃ m13, m13 < (X.came.length - n).toNat ∧ 0 ≤ n' ∧ n' ≤ X.came.length ∧ m13 = (X.came.length - n').toNat ∧ (∀ (j : Nat) y, (j : Int) < n' → X.came[j]? = some y → mkOf y.x ≠ mkOf q.x) ∧ Sat w₀ (blk r (rA X.most p X.row.length c p2 X.sent.length c2 p3 X.came.length c3) T_tenonref23_Net * (pqT p X.row.length c X.row * (pqT p2 X.sent.length c2 X.sent * (pqT p3 X.came.length c3 X.came * (blk k1 (pkF q.x (.slice q.p q.l q.c)) T_api_Packet * F))))) w2.drew) → G n') → arith .i64 (n + 1) G := by
      intro hne G hG
      refine arith_i64 (by omega) (by omega) (hG _ rfl ⟨_, by omega, by omega, by omega, rfl, fun j z hj hz => ?_, h2⟩)
      by_cases e : j = n.toNat
      · subst e; rw [hy] at hz; cases hz; exact hne
      · exact hno j z (by omega) hz
    refine nn_ok <| ldS_ok (cell_blk h2 (i := 3) rfl) <| tab_idx pqF_len ht (by decide) n0 hy fun g hg => ldI_ok (n := y.x.fr) (tab_cell pqF_len (j := 1) ht hg hy (by decide) rfl) <| ldI_ok (n := q.x.fr) (cell_blk hk (i := 1) rfl) <| br_split (fun e1 => ?_) (fun e1 => ?_)
    · have e1 : y.x.fr = q.x.fr := by simpa using e1
      refine nn_ok <| ldS_ok (cell_blk h2 (i := 3) rfl) <| tab_idx pqF_len ht (by decide) n0 hy fun g hg => ldI_ok (n := y.x.to) (tab_cell pqF_len (j := 2) ht hg hy (by decide) rfl) <| ldI_ok (n := q.x.to) (cell_blk hk (i := 2) rfl) <| br_split (fun e2 => ?_) (fun e2 => ?_)
      · have e2 : y.x.to = q.x.to := by simpa using e2
        refine nn_ok <| ldS_ok (cell_blk h2 (i := 3) rfl) <| tab_idx pqF_len ht (by decide) n0 hy fun g hg => ldI_ok (n := y.x.sq) (tab_cell pqF_len (j := 3) ht hg hy (by decide) rfl) <| ldI_ok (n := q.x.sq) (cell_blk hk (i := 3) rfl) <| br_split (fun e3 => ?_) (fun e3 => ?_)
        · have e3 : y.x.sq = q.x.sq := by simpa using e3
          have hf : freshR X q = false := by
            rw [freshR, decide_eq_false_iff_not]
            intro hall
            exact hall y (List.mem_of_getElem? hy) (by simp [mkOf, e1, e2, e3])
          refine ⟨by rw [hf], ?_⟩
          rw [freshX, hf]
          exact (RNet.shut (h2.perm (B := blk r (rA X.most p X.row.length c p2 X.sent.length c2 p3 X.came.length c3) T_tenonref23_Net * (pqT p X.row.length c X.row * (pqT p2 X.sent.length c2 X.sent * (pqT p3 X.came.length c3 X.came * (F * blk k1 (pkF q.x (.slice q.p q.l q.c)) T_api_Packet))))) (by ac_rfl)) rfl rfl rfl).perm (B := blk k1 (pkF q.x (.slice q.p q.l q.c)) T_api_Packet * (RNet r X * F)) (by ac_rfl) |>.right
        · have e3 : y.x.sq ≠ q.x.sq := by simpa using e3
          exact step (fun e => e3 (congrArg (·.2) e)) fun n' e h => h
      · have e2 : y.x.to ≠ q.x.to := by simpa using e2
        exact step (fun e => e2 (congrArg (·.1.2) e)) fun n' e h => h
    · have e1 : y.x.fr ≠ q.x.fr := by simpa using e1
      exact step (fun e => e1 (congrArg (·.1.1) e)) fun n' e h => h
  · have hf : freshR X q = true := by
      rw [freshR, decide_eq_true_iff]
      intro y hy
      obtain ⟨j, hj⟩ := List.mem_iff_getElem?.1 hy
      have := (List.getElem?_eq_some_iff.1 hj).1
      exact hno j y (by omega) hj
    have h2 := h2.drew
    refine nn_ok <| ldS_ok (cell_blk h2 (i := 3) rfl) <| ldPk (h2.perm (B := blk k1 (pkF q.x (.slice q.p q.l q.c)) T_api_Packet * (blk r (rA X.most p X.row.length c p2 X.sent.length c2 p3 X.came.length c3) T_tenonref23_Net * (pqT p X.row.length c X.row * (pqT p2 X.sent.length c2 X.sent * (pqT p3 X.came.length c3 X.came * F))))) (by ac_rfl)) q.ip ⟨pk_size q.ip, new_ok h2 fun k33 w3 h3 => pq_app (q := q) (h3.perm (B := blk k33 (pkF q.x (.slice q.p q.l q.c)) T_api_Packet * (tab T_api_Packet 25 pqF p3 X.came.length c3 X.came * (blk r (rA X.most p X.row.length c p2 X.sent.length c2 p3 X.came.length c3) T_tenonref23_Net * (pqT p X.row.length c X.row * (pqT p2 X.sent.length c2 X.sent * (blk k1 (pkF q.x (.slice q.p q.l q.c)) T_api_Packet * F)))))) (by unfold pqT; ac_rfl)) (by omega) fun p' c' w4 h4 => ?_⟩
    have h4 : Sat w₀ (pqT p' (X.came.length + 1) c' (X.came ++ [q]) * (blk r (rA X.most p X.row.length c p2 X.sent.length c2 p3 X.came.length c3) T_tenonref23_Net * (pqT p X.row.length c X.row * (pqT p2 X.sent.length c2 X.sent * (blk k1 (pkF q.x (.slice q.p q.l q.c)) T_api_Packet * F))))) w4 := h4
    refine nn_ok <| st_ok (i := 3) (h4.perm (B := blk r (rA X.most p X.row.length c p2 X.sent.length c2 p3 X.came.length c3) T_tenonref23_Net * (pqT p X.row.length c X.row * (pqT p2 X.sent.length c2 X.sent * (pqT p' (X.came.length + 1) c' (X.came ++ [q]) * (F * blk k1 (pkF q.x (.slice q.p q.l q.c)) T_api_Packet))))) (by ac_rfl)) (by simp [rA]) fun w5 h5 => ⟨by rw [hf], ?_⟩
    have h5 : Sat w₀ (blk r (rA X.most p X.row.length c p2 X.sent.length c2 p' (X.came.length + 1) c') T_tenonref23_Net * (pqT p X.row.length c X.row * (pqT p2 X.sent.length c2 X.sent * (pqT p' (X.came.length + 1) c' (X.came ++ [q]) * (F * blk k1 (pkF q.x (.slice q.p q.l q.c)) T_api_Packet))))) w5 := h5
    rw [freshX, hf]
    exact ((RNet.shut (X := { X with came := X.came ++ [q] }) h5 rfl rfl (by simp)).perm (B := blk k1 (pkF q.x (.slice q.p q.l q.c)) T_api_Packet * (RNet r { X with came := X.came ++ [q] } * F)) (by ac_rfl)).right
end
end Go.Proofs.Ytjjnbcdcppnllaa
