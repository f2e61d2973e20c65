/- The document's net: Take, Fresh, Send. No conditions. -/
import Derived.Test.YtjjnbcdcppnllaaNB
set_option linter.unusedVariables false
set_option linter.unusedSimpArgs false
set_option maxRecDepth 100000
namespace Go.Proofs.Ytjjnbcdcppnllaa
open Go.Sp Go.RowKit

section
variable {w₀ w : World} {F : HP} {r : Nat} {X : RN}
theorem ref_Take_ok {i : Int} {q : PQ} (h : Sat w₀ (RNet r X * F) w) (h0 : -9223372036854775808 ≤ i) (h1 : i ≤ 9223372036854775807) (hl : X.row.length ≤ 70000) (hq : X.row[(pkI i X.row.length).toNat]? = some q) :
    call Try.prog fn_tenonref23_Net_Take #[.pointer (some ⟨r, 0, none⟩), .int .i64 i] w fun v w' => v = .agg (pkF q.x (.slice q.p q.l q.c)) ∧ Sat w₀ (RNet r { X with row := X.row.eraseIdx (pkI i X.row.length).toNat } * F) w' := by
  have hlt := (List.getElem?_eq_some_iff.1 hq).1
  have hr := pkI_range (i := i) (n := X.row.length) (by omega)
  obtain ⟨k, hk⟩ : ∃ k : Nat, k = (pkI i X.row.length).toNat := ⟨_, rfl⟩
  have hkI : pkI i X.row.length = (k : Int) := by omega
  rw [← hk] at hq hlt ⊢
  apply tenonref23_Net_Take_call
  unfold tenonref23_Net_Take
  refine new_ok h fun k1 w1 h1' => ?_
  have h1' : Sat w₀ (blk k1 (pkF pk0 (.slice none 0 0)) T_api_Packet * (RNet r X * F)) w1 := h1'
  obtain ⟨p, c, p2, c2, p3, c3, h2⟩ := RNet.open_ (h1'.perm (B := RNet r X * (blk k1 (pkF pk0 (.slice none 0 0)) T_api_Packet * F)) (by ac_rfl))
  refine nn_ok <| ldS_ok (cell_blk h2 (i := 1) rfl) <| call_pure (pick_at h0 h1 (by omega) (by omega)) <| asI_ok <| nn_ok <| ldS_ok (cell_blk h2 (i := 1) rfl) ?_
  rw [hkI]
  have hq' : X.row[(k : Int).toNat]? = some q := by rw [Int.toNat_natCast]; exact hq
  refine tab_idx pqF_len h2.right.left (by decide) (by omega) hq' fun g hg => pq_ldA h2.right.left hg hq' <| new_ok h2 fun k10 w3 h3 => stPk h3 (pk_size (x := pk0) (v := .slice none 0 0) rfl) q.ip fun w4 h4 => ?_
  have h4 := h4.perm (B := pqT p X.row.length c X.row * (blk r (rA X.most p X.row.length c p2 X.sent.length c2 p3 X.came.length c3) T_tenonref23_Net * (blk k10 (pkF q.x (.slice q.p q.l q.c)) T_api_Packet * (pqT p2 X.sent.length c2 X.sent * (pqT p3 X.came.length c3 X.came * (blk k1 (pkF pk0 (.slice none 0 0)) T_api_Packet * F)))))) (by ac_rfl)
  refine nn_ok <| ldS_ok (h4.right.left.cell (i := 1) rfl) <| slc_own (h4 : Sat w₀ (own T_api_Packet 25 p X.row.length c (X.row.flatMap pqF) * _) w4) (by omega) (by omega) ?_
  rw [Int.toNat_natCast]
  have hR1 := tab_front pqF_len (by decide) h4.left (j := k) (by omega)
  refine tab_more (ys := []) (zs := X.row.take k) (m := k) (l := 0) pksTy pqF_len pqF_one (tab_nil T_api_Packet 25 pqF h4) hR1 (by simp only [maxLen]; omega) (by omega) fun p' c' w5 h5 => ?_
  rw [Nat.zero_add, List.nil_append] at h5
  rw [Nat.zero_add]
  have hcap := (h5.right.left : Sat w₀ (own T_api_Packet 25 p X.row.length c (X.row.flatMap pqF)) w5).own_cap
  refine nn_ok <| ldS_ok (h5.right.right.left.cell (i := 1) rfl) <| arith_i64 (by omega) (by omega) <| slc_ok (by omega) (by omega) (by omega) ?_
  have e1 : ((k : Int) + 1).toNat = k + 1 := by omega
  rw [e1, Int.toNat_natCast]
  have hR2 := tab_back pqF_len (by decide) h5.right.left (j := k + 1) (by omega)
  refine tab_more (ys := X.row.take k) (zs := X.row.drop (k + 1)) (m := X.row.length - (k + 1)) (l := k) pksTy pqF_len pqF_one h5 hR2 (by simp only [maxLen]; omega) (by omega) fun p'' c'' w6 h6 => ?_
  rw [← List.eraseIdx_eq_take_drop_succ] at h6
  have h6 := h6.perm (B := blk r (rA X.most p X.row.length c p2 X.sent.length c2 p3 X.came.length c3) T_tenonref23_Net * (blk k10 (pkF q.x (.slice q.p q.l q.c)) T_api_Packet * (blk k1 (pkF pk0 (.slice none 0 0)) T_api_Packet * (pqT p'' (k + (X.row.length - (k + 1))) c'' (X.row.eraseIdx k) * (pqT p2 X.sent.length c2 X.sent * (pqT p3 X.came.length c3 X.came * (F * pqT p X.row.length c X.row))))))) (by
    show tab T_api_Packet 25 pqF p'' (k + (X.row.length - (k + 1))) c'' (X.row.eraseIdx k) * (tab T_api_Packet 25 pqF p X.row.length c X.row * _) = _
    unfold pqT
    ac_rfl)
  refine nn_ok <| st_ok (i := 1) h6 (by simp [rA]) fun w7 h7 => ?_
  have h7 : Sat w₀ (blk r (rA X.most p'' (k + (X.row.length - (k + 1))) c'' p2 X.sent.length c2 p3 X.came.length c3) T_tenonref23_Net * (blk k10 (pkF q.x (.slice q.p q.l q.c)) T_api_Packet * (blk k1 (pkF pk0 (.slice none 0 0)) T_api_Packet * (pqT p'' (k + (X.row.length - (k + 1))) c'' (X.row.eraseIdx k) * (pqT p2 X.sent.length c2 X.sent * (pqT p3 X.came.length c3 X.came * (F * pqT p X.row.length c X.row))))))) w7 := h7
  have h8 := h7.perm (B := blk k10 (pkF q.x (.slice q.p q.l q.c)) T_api_Packet * (blk k1 (pkF pk0 (.slice none 0 0)) T_api_Packet * (blk r (rA X.most p'' (k + (X.row.length - (k + 1))) c'' p2 X.sent.length c2 p3 X.came.length c3) T_tenonref23_Net * (pqT p'' (k + (X.row.length - (k + 1))) c'' (X.row.eraseIdx k) * (pqT p2 X.sent.length c2 X.sent * (pqT p3 X.came.length c3 X.came * (F * pqT p X.row.length c X.row))))))) (by ac_rfl)
  refine ldPk h8 q.ip <| stPk (h8.perm (B := blk k1 (pkF pk0 (.slice none 0 0)) T_api_Packet * (blk k10 (pkF q.x (.slice q.p q.l q.c)) T_api_Packet * (blk r (rA X.most p'' (k + (X.row.length - (k + 1))) c'' p2 X.sent.length c2 p3 X.came.length c3) T_tenonref23_Net * (pqT p'' (k + (X.row.length - (k + 1))) c'' (X.row.eraseIdx k) * (pqT p2 X.sent.length c2 X.sent * (pqT p3 X.came.length c3 X.came * (F * pqT p X.row.length c X.row))))))) (by ac_rfl)) (pk_size (x := pk0) (v := .slice none 0 0) rfl) q.ip fun w8 h9 => ldPk h9 q.ip ⟨rfl, ?_⟩
  have h10 := RNet.shut (X := { X with row := X.row.eraseIdx k }) h9.right.right (by rw [List.length_eraseIdx]; simp [hlt]; omega) rfl rfl
  exact (h10.perm (B := pqT p X.row.length c X.row * (RNet r { X with row := X.row.eraseIdx k } * F)) (by ac_rfl)).right
end
end Go.Proofs.Ytjjnbcdcppnllaa
