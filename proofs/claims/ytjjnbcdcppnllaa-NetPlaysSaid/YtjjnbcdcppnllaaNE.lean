/- The document's net: Send. No conditions. -/
import Derived.Test.YtjjnbcdcppnllaaND
set_option linter.unusedVariables false
set_option linter.unusedSimpArgs false
set_option maxRecDepth 100000
namespace Go.Proofs.Ytjjnbcdcppnllaa
open Go.Sp Go.RowKit

def sendR (X : RN) (q : PQ) : RN × Int × Int :=
  if ¬ RightP (sqP q.x ((rdN X.sent q.x : Int) + 1)) then (X, 0, 5) else
  if X.most ≤ X.row.length then (X, 0, 3) else
  ({ X with row := X.row ++ [sqQ q ((rdN X.sent q.x : Int) + 1)], sent := X.sent ++ [sqQ q ((rdN X.sent q.x : Int) + 1)] }, (rdN X.sent q.x : Int) + 1, 0)
theorem rdN_le (l : List PQ) (x : PK) : rdN l x ≤ l.length := List.countP_le_length
section
variable {w₀ w : World} {F : HP} {r : Nat} {X : RN}
theorem ref_Send_ok {q : PQ} (h : Sat w₀ (RNet r X * F) w) (hx : PIn q.x) (gx : Gives F 36 q.p q.l (q.x.rs.flatMap orC)) (hl : X.sent.length ≤ 70000) (hm : X.most ≤ 70000) :
    call Try.prog fn_tenonref23_Net_Send #[.pointer (some ⟨r, 0, none⟩), .agg (pkF q.x (.slice q.p q.l q.c))] w fun v w' => v = .tuple #[.int .u64 (sendR X q).2.1, .int .i64 (sendR X q).2.2] ∧ Sat w₀ (RNet r (sendR X q).1 * F) w' := by
  apply tenonref23_Net_Send_call
  unfold tenonref23_Net_Send
  refine new_ok h fun k1 w1 h1 => ?_
  have h1 : Sat w₀ (blk k1 (pkF q.x (.slice q.p q.l q.c)) T_api_Packet * (RNet r X * F)) w1 := h1
  obtain ⟨p, c, p2, c2, p3, c3, h2⟩ := RNet.open_ (h1.perm (B := RNet r X * (blk k1 (pkF q.x (.slice q.p q.l q.c)) T_api_Packet * F)) (by ac_rfl))
  refine ⟨fun s n w m => 0 ≤ n ∧ n ≤ X.sent.length ∧ m = (X.sent.length - n).toNat ∧ s = (rdN (X.sent.take n.toNat) q.x : Int) + 1 ∧ Sat w₀ (blk r (rA X.most p X.row.length c p2 X.sent.length c2 p3 X.came.length c3) T_tenonref23_Net * (pqT p X.row.length c X.row * (pqT p2 X.sent.length c2 X.sent * (pqT p3 X.came.length c3 X.came * (blk k1 (pkF q.x (.slice q.p q.l q.c)) T_api_Packet * F))))) w, ⟨_, by decide, by omega, rfl, rfl, h2⟩, ?_⟩
  clear h1 h2
  rintro u s n w2 m ⟨n0, nl, rfl, hs, h2⟩
  have hle := rdN_le (X.sent.take n.toNat) q.x
  rw [List.length_take] at hle
  refine nn_ok <| ldS_ok (cell_blk h2 (i := 2) rfl) <| br_dec (fun hlt => ?_) (fun hge => ?_)
  · obtain ⟨y, hy⟩ : ∃ y, X.sent[n.toNat]? = some y := ⟨_, List.getElem?_eq_getElem (by omega)⟩
    have h2 := h2.drew
    have hk := h2.right.right.right.right
    have ht : Sat w₀ (tab T_api_Packet 25 pqF p2 X.sent.length c2 X.sent) w2.drew := h2.right.right.left
    have etk : rdN (X.sent.take (n + 1).toNat) q.x = rdN (X.sent.take n.toNat) q.x + if y.x.fr = q.x.fr ∧ y.x.to = q.x.to then 1 else 0 := by
      rw [show (n + 1).toNat = n.toNat + 1 by omega, List.take_add_one, hy, rdN, rdN, List.countP_append]
      congr 1
      simp [List.countP_cons]
    refine nn_ok <| ldS_ok (cell_blk h2 (i := 2) rfl) <| tab_idx pqF_len ht (by decide) n0 hy fun g hg => ldI_ok (n := y.x.fr) (tab_cell pqF_len (j := 1) ht hg hy (by decide) rfl) <| ldI_ok (n := q.x.fr) (cell_blk hk (i := 1) rfl) <| br_split (fun e1 => ?_) (fun e1 => ?_)
    · have e1 : y.x.fr = q.x.fr := by simpa using e1
      refine nn_ok <| ldS_ok (cell_blk h2 (i := 2) rfl) <| tab_idx pqF_len ht (by decide) n0 hy fun g hg => ldI_ok (n := y.x.to) (tab_cell pqF_len (j := 2) ht hg hy (by decide) rfl) <| ldI_ok (n := q.x.to) (cell_blk hk (i := 2) rfl) <| br_split (fun e2 => ?_) (fun e2 => ?_)
      · have e2 : y.x.to = q.x.to := by simpa using e2
        rw [if_pos ⟨e1, e2⟩] at etk
        exact arith_u64 (by omega) (by omega) <| arith_i64 (by omega) (by omega) ⟨_, by omega, by omega, by omega, rfl, by rw [etk]; omega, h2⟩
      · have e2 : y.x.to ≠ q.x.to := by simpa using e2
        rw [if_neg (fun e => e2 e.2)] at etk
        exact arith_i64 (by omega) (by omega) ⟨_, by omega, by omega, by omega, rfl, by rw [etk]; omega, h2⟩
    · have e1 : y.x.fr ≠ q.x.fr := by simpa using e1
      rw [if_neg (fun e => e1 e.1)] at etk
      exact arith_i64 (by omega) (by omega) ⟨_, by omega, by omega, by omega, rfl, by rw [etk]; omega, h2⟩
  · rw [List.take_of_length_le (by omega)] at hs hle
    obtain ⟨N, hN⟩ : ∃ N : Int, N = (rdN X.sent q.x : Int) + 1 := ⟨_, rfl⟩
    rw [← hN] at hs
    subst s
    have hNr : 1 ≤ N ∧ N ≤ 70001 := by omega
    have hx' : PIn (sqP q.x N) := ⟨hx.kd, hx.fr, hx.to, ⟨by show 0 ≤ N; omega, by show N ≤ 18446744073709551615; omega⟩, hx.cl, hx.ip, hx.by_, hx.md, hx.n, hx.cd⟩
    have e3 : (pkF q.x (.slice q.p q.l q.c)).setIfInBounds 3 (.int .u64 N) = pkF (sqP q.x N) (.slice q.p q.l q.c) := by
      rw [pk_set 3 (by decide)]
      rfl
    refine st_ok (i := 3) (h2.perm (B := blk k1 (pkF q.x (.slice q.p q.l q.c)) T_api_Packet * (blk r (rA X.most p X.row.length c p2 X.sent.length c2 p3 X.came.length c3) T_tenonref23_Net * (pqT p X.row.length c X.row * (pqT p2 X.sent.length c2 X.sent * (pqT p3 X.came.length c3 X.came * F))))) (by ac_rfl)) (pk_lt (by decide)) fun w3 h3 => ?_
    rw [e3] at h3
    have h3 : Sat w₀ (blk k1 (pkF (sqP q.x N) (.slice q.p q.l q.c)) T_api_Packet * (blk r (rA X.most p X.row.length c p2 X.sent.length c2 p3 X.came.length c3) T_tenonref23_Net * (pqT p X.row.length c X.row * (pqT p2 X.sent.length c2 X.sent * (pqT p3 X.came.length c3 X.came * F))))) w3 := h3
    have back : ∀ {w : World}, Sat w₀ (blk k1 (pkF (sqP q.x N) (.slice q.p q.l q.c)) T_api_Packet * (blk r (rA X.most p X.row.length c p2 X.sent.length c2 p3 X.came.length c3) T_tenonref23_Net * (pqT p X.row.length c X.row * (pqT p2 X.sent.length c2 X.sent * (pqT p3 X.came.length c3 X.came * F))))) w → Sat w₀ (RNet r X * F) w := fun h => RNet.shut h.right rfl rfl rfl
    have gx' : Gives (blk k1 (pkF (sqP q.x N) (.slice q.p q.l q.c)) T_api_Packet * (blk r (rA X.most p X.row.length c p2 X.sent.length c2 p3 X.came.length c3) T_tenonref23_Net * (pqT p X.row.length c X.row * (pqT p2 X.sent.length c2 X.sent * (pqT p3 X.came.length c3 X.came * F))))) 36 q.p q.l ((sqP q.x N).rs.flatMap orC) := Gives.right (Gives.right (Gives.right (Gives.right (Gives.right gx))))
    rw [sendR, ← hN]
    refine ldPk h3 q.ip <| call_mono (ref_Right_ok h3 hx' gx') ?_
    rintro _ w4 ⟨rfl, h4⟩
    refine asB_ok <| br_split (fun hr => ?_) (fun hr => ?_)
    · have hr : ¬ RightP (sqP q.x N) := by simpa using hr
      rw [if_pos hr]
      exact ⟨rfl, back h4⟩
    · have hr : RightP (sqP q.x N) := by simpa using hr
      rw [if_neg (fun q => q hr)]
      have h4 := h4.drew
      refine nn_ok <| ldS_ok (cell_blk h4.right (i := 1) rfl) <| nn_ok <| ldI_ok (n := X.most) (cell_blk h4.right (i := 0) rfl) <| br_dec (fun hge => ?_) (fun hlt => ?_)
      · rw [if_pos hge]
        exact ⟨rfl, back h4⟩
      · rw [if_neg hlt]
        have h4 := h4.drew
        refine nn_ok <| ldS_ok (cell_blk h4.right (i := 1) rfl) <| ldPk h4 hx'.ip ⟨pk_size hx'.ip, new_ok h4 fun k37 w5 h5 => pq_app (q := sqQ q N) (h5.perm (B := blk k37 (pkF (sqP q.x N) (.slice q.p q.l q.c)) T_api_Packet * (tab T_api_Packet 25 pqF p X.row.length c X.row * (blk k1 (pkF (sqP q.x N) (.slice q.p q.l q.c)) T_api_Packet * (blk r (rA X.most p X.row.length c p2 X.sent.length c2 p3 X.came.length c3) T_tenonref23_Net * (pqT p2 X.sent.length c2 X.sent * (pqT p3 X.came.length c3 X.came * F)))))) (by unfold pqT; ac_rfl)) (by omega) fun p' c' w6 h6 => ?_⟩
        have h6 : Sat w₀ (pqT p' (X.row.length + 1) c' (X.row ++ [sqQ q N]) * (blk k1 (pkF (sqP q.x N) (.slice q.p q.l q.c)) T_api_Packet * (blk r (rA X.most p X.row.length c p2 X.sent.length c2 p3 X.came.length c3) T_tenonref23_Net * (pqT p2 X.sent.length c2 X.sent * (pqT p3 X.came.length c3 X.came * F))))) w6 := h6
        refine nn_ok <| st_ok (i := 1) (h6.perm (B := blk r (rA X.most p X.row.length c p2 X.sent.length c2 p3 X.came.length c3) T_tenonref23_Net * (blk k1 (pkF (sqP q.x N) (.slice q.p q.l q.c)) T_api_Packet * (pqT p' (X.row.length + 1) c' (X.row ++ [sqQ q N]) * (pqT p2 X.sent.length c2 X.sent * (pqT p3 X.came.length c3 X.came * F))))) (by ac_rfl)) (by simp [rA]) fun w7 h7 => ?_
        have h7 : Sat w₀ (blk r (rA X.most p' (X.row.length + 1) c' p2 X.sent.length c2 p3 X.came.length c3) T_tenonref23_Net * (blk k1 (pkF (sqP q.x N) (.slice q.p q.l q.c)) T_api_Packet * (pqT p' (X.row.length + 1) c' (X.row ++ [sqQ q N]) * (pqT p2 X.sent.length c2 X.sent * (pqT p3 X.came.length c3 X.came * F))))) w7.drew := Sat.drew h7
        refine nn_ok <| ldS_ok (cell_blk h7 (i := 2) rfl) <| ldPk (h7.perm (B := blk k1 (pkF (sqP q.x N) (.slice q.p q.l q.c)) T_api_Packet * (blk r (rA X.most p' (X.row.length + 1) c' p2 X.sent.length c2 p3 X.came.length c3) T_tenonref23_Net * (pqT p' (X.row.length + 1) c' (X.row ++ [sqQ q N]) * (pqT p2 X.sent.length c2 X.sent * (pqT p3 X.came.length c3 X.came * F))))) (by ac_rfl)) hx'.ip ⟨pk_size hx'.ip, new_ok h7 fun k43 w8 h8 => pq_app (q := sqQ q N) (h8.perm (B := blk k43 (pkF (sqP q.x N) (.slice q.p q.l q.c)) T_api_Packet * (tab T_api_Packet 25 pqF p2 X.sent.length c2 X.sent * (blk k1 (pkF (sqP q.x N) (.slice q.p q.l q.c)) T_api_Packet * (blk r (rA X.most p' (X.row.length + 1) c' p2 X.sent.length c2 p3 X.came.length c3) T_tenonref23_Net * (pqT p' (X.row.length + 1) c' (X.row ++ [sqQ q N]) * (pqT p3 X.came.length c3 X.came * F)))))) (by unfold pqT; ac_rfl)) (by omega) fun p2' c2' w9 h9 => ?_⟩
        have h9 : Sat w₀ (pqT p2' (X.sent.length + 1) c2' (X.sent ++ [sqQ q N]) * (blk k1 (pkF (sqP q.x N) (.slice q.p q.l q.c)) T_api_Packet * (blk r (rA X.most p' (X.row.length + 1) c' p2 X.sent.length c2 p3 X.came.length c3) T_tenonref23_Net * (pqT p' (X.row.length + 1) c' (X.row ++ [sqQ q N]) * (pqT p3 X.came.length c3 X.came * F))))) w9 := h9
        refine nn_ok <| st_ok (i := 2) (h9.perm (B := blk r (rA X.most p' (X.row.length + 1) c' p2 X.sent.length c2 p3 X.came.length c3) T_tenonref23_Net * (blk k1 (pkF (sqP q.x N) (.slice q.p q.l q.c)) T_api_Packet * (pqT p' (X.row.length + 1) c' (X.row ++ [sqQ q N]) * (pqT p2' (X.sent.length + 1) c2' (X.sent ++ [sqQ q N]) * (pqT p3 X.came.length c3 X.came * F))))) (by ac_rfl)) (by simp [rA]) fun w10 h10 => ⟨rfl, ?_⟩
        have h10 : Sat w₀ (blk r (rA X.most p' (X.row.length + 1) c' p2' (X.sent.length + 1) c2' p3 X.came.length c3) T_tenonref23_Net * (blk k1 (pkF (sqP q.x N) (.slice q.p q.l q.c)) T_api_Packet * (pqT p' (X.row.length + 1) c' (X.row ++ [sqQ q N]) * (pqT p2' (X.sent.length + 1) c2' (X.sent ++ [sqQ q N]) * (pqT p3 X.came.length c3 X.came * F))))) w10 := h10
        exact RNet.shut (X := { X with row := X.row ++ [sqQ q N], sent := X.sent ++ [sqQ q N] }) (h10.perm (B := blk k1 (pkF (sqP q.x N) (.slice q.p q.l q.c)) T_api_Packet * (blk r (rA X.most p' (X.row.length + 1) c' p2' (X.sent.length + 1) c2' p3 X.came.length c3) T_tenonref23_Net * (pqT p' (X.row.length + 1) c' (X.row ++ [sqQ q N]) * (pqT p2' (X.sent.length + 1) c2' (X.sent ++ [sqQ q N]) * (pqT p3 X.came.length c3 X.came * F))))) (by ac_rfl)).right (by simp) (by simp) rfl
end
end Go.Proofs.Ytjjnbcdcppnllaa
