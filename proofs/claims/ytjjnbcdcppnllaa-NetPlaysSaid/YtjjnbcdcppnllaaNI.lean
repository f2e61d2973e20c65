/- Nets: the law's row and same. No conditions. -/
import Derived.Test.YtjjnbcdcppnllaaNH
set_option linter.unusedVariables false
set_option linter.unusedSimpArgs false
set_option maxRecDepth 100000
namespace Go.Proofs.Ytjjnbcdcppnllaa
open Go.Sp Go.RowKit

structure RwS (row : List PK) (most j : Nat) (qs : List PQ) (G : HP) : Prop where
  eq : qs.map (·.x) = row.take j
  gp : PQs G qs
  le : j ≤ most
def rowS (k2 : Nat) (row : List PK) (most j : Nat) : HP := ex fun qs : List PQ => ex fun G : HP => ex fun p : Option Addr => ex fun c : Nat => prop (RwS row most j qs G) * (blk k2 #[.slice p qs.length c] 29 * (pqT p qs.length c qs * G))
section
variable {w₀ w : World} {F : HP} {n : Int}
theorem rowS.open_ {k2 most j : Nat} {row : List PK} (h : Sat w₀ (rowS k2 row most j * F) w) : ∃ qs G p c, RwS row most j qs G ∧ Sat w₀ (blk k2 #[.slice p qs.length c] 29 * (pqT p qs.length c qs * (G * F))) w := by
  obtain ⟨qs, h⟩ := Sat.ex h
  obtain ⟨G, h⟩ := Sat.ex h
  obtain ⟨p, h⟩ := Sat.ex h
  obtain ⟨c, h⟩ := Sat.ex h
  have h := h.perm (B := prop (RwS row most j qs G) * (blk k2 #[.slice p qs.length c] 29 * (pqT p qs.length c qs * (G * F)))) (by ac_rfl)
  exact ⟨qs, G, p, c, h.prop, h.right⟩
theorem rowS.shut {k2 most j : Nat} {row : List PK} {qs : List PQ} {G : HP} {p : Option Addr} {c l : Nat} (hr : RwS row most j qs G) (h : Sat w₀ (blk k2 #[.slice p l c] 29 * (pqT p l c qs * (G * F))) w) (hl : l = qs.length) : Sat w₀ (rowS k2 row most j * F) w := by
  subst hl
  exact Sat.to_ex qs (Sat.to_ex G (Sat.to_ex p (Sat.to_ex c ((h.add_prop hr).perm (by ac_rfl)))))
theorem row_ok {b : Nat} {M : NM} {most : Nat} (h : Sat w₀ (NetH b M * F) w) (hM : NOk M n) (hm : most ≤ 1000) :
    call Try.prog fn_tenonlaw23_row #[.pointer (some ⟨b, 0, none⟩), .int .i64 most] w fun v w' => ∃ qs G p c, v = .slice p qs.length c ∧ qs.map (·.x) = M.row.take most ∧ PQs G qs ∧ Sat w₀ (pqT p qs.length c qs * (G * (NetH b M * F))) w' := by
  apply tenonlaw23_row_call
  unfold tenonlaw23_row
  refine new_ok h fun k1 w1 h1 => new_ok h1 fun k2 w2 h2 => call_mono (net_All_ok h2) ?_
  rintro _ w3 ⟨k, rfl, h3⟩
  obtain ⟨ST, rows, p, c, m1, m2, hrow, h4⟩ := NetH.open_ (h3.perm (B := NetH b M * (blk k #[.pointer (some ⟨b, 0, none⟩)] 25 * (blk k2 #[.slice none 0 0] 29 * (blk k1 #[.int .i64 most] 3 * F)))) (by ac_rfl))
  have hrl := hrow.len
  have hrm : M.row.length ≤ 65536 := by have h1 := hM.len; have h2 := hM.m1; omega
  have h0 : Sat w₀ (blk k #[.pointer (some ⟨b, 0, none⟩)] 25 * (blk b (nA M.most p rows.length c m1 m2) T_net_Net * (tab T_sl_uint8 1 bsF p rows.length c rows * (ST * (rowS k2 M.row most 0 * (blk k1 #[.int .i64 most] 3 * (seH m1 M.sent * (caH m2 M.came * F)))))))) w3 := by
    refine (rowS.shut (k2 := k2) (row := M.row) (most := most) (j := 0) (qs := []) (G := emp) (p := none) (c := 0) (l := 0) (F := blk k #[.pointer (some ⟨b, 0, none⟩)] 25 * (blk b (nA M.most p rows.length c m1 m2) T_net_Net * (tab T_sl_uint8 1 bsF p rows.length c rows * (ST * (blk k1 #[.int .i64 most] 3 * (seH m1 M.sent * (caH m2 M.came * F))))))) ⟨rfl, (fun q hq => by cases hq), Nat.zero_le _⟩ ?_ rfl).perm (by ac_rfl)
    exact (tab_nil T_api_Packet 25 pqF h4.with_emp).perm (by
      show pqT none 0 0 [] * _ = _
      ac_rfl)
  refine asF_ok ⟨w₀, fn_net_Net_All_1, _, M.row.length, nY M.row, fun j => blk k #[.pointer (some ⟨b, 0, none⟩)] 25 * (blk b (nA M.most p rows.length c m1 m2) T_net_Net * (tab T_sl_uint8 1 bsF p rows.length c rows * (ST * (rowS k2 M.row most j * (blk k1 #[.int .i64 most] 3 * (seH m1 M.sent * (caH m2 M.came * F))))))),
    fun cd => prop (cd = .exit 0) * (blk k #[.pointer (some ⟨b, 0, none⟩)] 25 * (blk b (nA M.most p rows.length c m1 m2) T_net_Net * (tab T_sl_uint8 1 bsF p rows.length c rows * (ST * (rowS k2 M.row most most * (blk k1 #[.int .i64 most] 3 * (seH m1 M.sent * (caH m2 M.came * F)))))))),
    rfl, ⟨_, _, Try.func44, rfl⟩, h0, ?_, nAll_iter hrow hM (fun w h => h.left) (fun w h => h.right.left) (fun _ w h => h.right.right.left) (fun _ j w h => h.right.right.right.left), ?_, ?_, ?_⟩
  · rintro j x H _ ⟨y, q, m, d, _, rfl, _, _⟩
    rfl
  · rintro j x H hj ⟨y, q, m, d, hy, rfl, hmd, hH⟩ G G' T w5 hT h5
    have h5 : Sat w₀ ((blk k #[.pointer (some ⟨b, 0, none⟩)] 25 * (blk b (nA M.most p rows.length c m1 m2) T_net_Net * (tab T_sl_uint8 1 bsF p rows.length c rows * (ST * (rowS k2 M.row most j * (blk k1 #[.int .i64 most] 3 * (seH m1 M.sent * (caH m2 M.came * F)))))))) * (H * G)) w5 := h5
    have hyp := (hM.row y (List.mem_of_getElem? hy)).1
    refine ⟨_, _, rfl, new_ok h5 fun k11 w6 h6 => stPk h6 (pk_size (x := pk0) (v := .slice none 0 0) rfl) hyp.ip fun w7 h7 => ?_⟩
    refine hT (blk k11 (pkF y (.slice q m d)) T_api_Packet * ((blk k #[.pointer (some ⟨b, 0, none⟩)] 25 * (blk b (nA M.most p rows.length c m1 m2) T_net_Net * (tab T_sl_uint8 1 bsF p rows.length c rows * (ST * (rowS k2 M.row most j * (blk k1 #[.int .i64 most] 3 * (seH m1 M.sent * (caH m2 M.came * F)))))))) * H)) _ _ (h7.perm (by
      show blk k11 (pkF y (.slice q m d)) T_api_Packet * _ = _
      ac_rfl)) fun w8 h8 => ?_
    obtain ⟨qs, K, pp, cc, hs, h9⟩ := rowS.open_ (h8.perm (B := rowS k2 M.row most j * (blk k1 #[.int .i64 most] 3 * (blk k11 (pkF y (.slice q m d)) T_api_Packet * (H * (blk k #[.pointer (some ⟨b, 0, none⟩)] 25 * (blk b (nA M.most p rows.length c m1 m2) T_net_Net * (tab T_sl_uint8 1 bsF p rows.length c rows * (ST * (seH m1 M.sent * (caH m2 M.came * (F * G')))))))))) ) (by ac_rfl))
    have hql : qs.length = j := by
      have := congrArg List.length hs.eq
      rw [List.length_map, List.length_take] at this
      omega
    have hle := hs.le
    have c2 : w8.cell? (⟨k2, 0, none⟩ : Addr) = some (.slice pp qs.length cc) := by have := cell_blk h9 (i := 0) (v := .slice pp qs.length cc) rfl; rwa [Sp.add_zero] at this
    have c1 : w8.cell? (⟨k1, 0, none⟩ : Addr) = some (.int .i64 most) := by have := cell_blk h9.right.right.right (i := 0) (v := .int .i64 most) rfl; rwa [Sp.add_zero] at this
    refine ldS_ok c2 <| ldI_ok (n := (most : Int)) c1 <| br_dec (fun hge => ?_) (fun hlt => ?_)
    · have ej : j = most := by omega
      subst ej
      have h10 := ((rowS.shut hs h9 rfl).perm (B := (blk k11 (pkF y (.slice q m d)) T_api_Packet * H) * ((blk k #[.pointer (some ⟨b, 0, none⟩)] 25 * (blk b (nA M.most p rows.length c m1 m2) T_net_Net * (tab T_sl_uint8 1 bsF p rows.length c rows * (ST * (rowS k2 M.row j j * (blk k1 #[.int .i64 j] 3 * (seH m1 M.sent * (caH m2 M.came * F)))))))) * G')) (by ac_rfl)).right
      exact (h10.add_prop (p := Code.exit 0 = Code.exit 0) rfl).perm (by first | ac_rfl | (dsimp only; ac_rfl))
    · refine ldS_ok c2 <| br_false (by simp [hql]) <| ldS_ok c2 <| ldPk (h9.perm (B := blk k11 (pkF y (.slice q m d)) T_api_Packet * (blk k2 #[.slice pp qs.length cc] 29 * (pqT pp qs.length cc qs * (K * (blk k1 #[.int .i64 most] 3 * (H * (blk k #[.pointer (some ⟨b, 0, none⟩)] 25 * (blk b (nA M.most p rows.length c m1 m2) T_net_Net * (tab T_sl_uint8 1 bsF p rows.length c rows * (ST * (seH m1 M.sent * (caH m2 M.came * (F * G'))))))))))))) (by ac_rfl)) hyp.ip ⟨pk_size hyp.ip, new_ok h9 fun k17 w10 h10 => pq_app (q := ⟨y, q, m, d, hyp.ip⟩) (h10.perm (B := blk k17 (pkF y (.slice q m d)) T_api_Packet * (tab T_api_Packet 25 pqF pp qs.length cc qs * (blk k2 #[.slice pp qs.length cc] 29 * (K * (blk k1 #[.int .i64 most] 3 * (H * (blk k #[.pointer (some ⟨b, 0, none⟩)] 25 * (blk b (nA M.most p rows.length c m1 m2) T_net_Net * (tab T_sl_uint8 1 bsF p rows.length c rows * (ST * (seH m1 M.sent * (caH m2 M.came * (F * (G' * blk k11 (pkF y (.slice q m d)) T_api_Packet)))))))))))))) (by unfold pqT; ac_rfl)) (by omega) fun p' c' w11 h11 => ?_⟩
      have h12 := h11.perm (B := blk k2 #[.slice pp qs.length cc] 29 * (pqT p' (qs.length + 1) c' (qs ++ [⟨y, q, m, d, hyp.ip⟩]) * (K * (blk k1 #[.int .i64 most] 3 * (H * (blk k #[.pointer (some ⟨b, 0, none⟩)] 25 * (blk b (nA M.most p rows.length c m1 m2) T_net_Net * (tab T_sl_uint8 1 bsF p rows.length c rows * (ST * (seH m1 M.sent * (caH m2 M.came * (F * (G' * blk k11 (pkF y (.slice q m d)) T_api_Packet))))))))))))) (by unfold pqT; ac_rfl)
      refine st_ok (i := 0) h12 (by simp) fun w13 h13 => ?_
      have h13 : Sat w₀ (blk k2 #[.slice p' (qs.length + 1) c'] 29 * (pqT p' (qs.length + 1) c' (qs ++ [⟨y, q, m, d, hyp.ip⟩]) * ((H * K) * (blk k1 #[.int .i64 most] 3 * (blk k #[.pointer (some ⟨b, 0, none⟩)] 25 * (blk b (nA M.most p rows.length c m1 m2) T_net_Net * (tab T_sl_uint8 1 bsF p rows.length c rows * (ST * (seH m1 M.sent * (caH m2 M.came * (F * (G' * blk k11 (pkF y (.slice q m d)) T_api_Packet)))))))))))) w13 := Sat.perm h13 (by
        show blk k2 #[.slice p' (qs.length + 1) c'] 29 * _ = _
        ac_rfl)
      have hs' : RwS M.row most (j + 1) (qs ++ [⟨y, q, m, d, hyp.ip⟩]) (H * K) := by
        refine ⟨?_, hs.gp.right.snoc (by show m ≤ 1000; omega) (Gives.left hH), by omega⟩
        rw [List.map_append, hs.eq, List.take_add_one, hy]
        rfl
      exact ((rowS.shut hs' h13 (by simp)).perm (B := blk k11 (pkF y (.slice q m d)) T_api_Packet * ((blk k #[.pointer (some ⟨b, 0, none⟩)] 25 * (blk b (nA M.most p rows.length c m1 m2) T_net_Net * (tab T_sl_uint8 1 bsF p rows.length c rows * (ST * (rowS k2 M.row most (j + 1) * (blk k1 #[.int .i64 most] 3 * (seH m1 M.sent * (caH m2 M.came * F)))))))) * G')) (by ac_rfl)).right
  · intro D w5 h5
    obtain ⟨qs, K, pp, cc, hs, h6⟩ := rowS.open_ (h5.perm (B := rowS k2 M.row most M.row.length * (markH D * (blk k #[.pointer (some ⟨b, 0, none⟩)] 25 * (blk k1 #[.int .i64 most] 3 * (blk b (nA M.most p rows.length c m1 m2) T_net_Net * (tab T_sl_uint8 1 bsF p rows.length c rows * (seH m1 M.sent * (caH m2 M.came * (ST * F))))))))) (by first | ac_rfl | (dsimp only; ac_rfl)))
    have c2 : w5.cell? (⟨k2, 0, none⟩ : Addr) = some (.slice pp qs.length cc) := by have := cell_blk h6 (i := 0) (v := .slice pp qs.length cc) rfl; rwa [Sp.add_zero] at this
    have hle := hs.le
    refine ldS_ok c2 <| shutD_ok (h6.perm (B := markH D * (blk k2 #[.slice pp qs.length cc] 29 * (pqT pp qs.length cc qs * (K * (blk k #[.pointer (some ⟨b, 0, none⟩)] 25 * (blk k1 #[.int .i64 most] 3 * (blk b (nA M.most p rows.length c m1 m2) T_net_Net * (tab T_sl_uint8 1 bsF p rows.length c rows * (seH m1 M.sent * (caH m2 M.came * (ST * F))))))))))) (by ac_rfl)) fun w6 h7 => ⟨qs, K, pp, cc, rfl, ?_, hs.gp, ?_⟩
    · rw [hs.eq, List.take_of_length_le (Nat.le_refl _), List.take_of_length_le hle]
    · exact (NetH.shut hrow (h7.perm (B := (blk k2 #[.slice pp qs.length cc] 29 * (blk k #[.pointer (some ⟨b, 0, none⟩)] 25 * blk k1 #[.int .i64 most] 3)) * (blk b (nA M.most p rows.length c m1 m2) T_net_Net * (tab T_sl_uint8 1 bsF p rows.length c rows * (seH m1 M.sent * (caH m2 M.came * (ST * (F * (pqT pp qs.length cc qs * K)))))))) (by ac_rfl)).right rfl).perm (by ac_rfl)
  · intro D cd w5 h5
    have h5 := h5.perm (B := prop (cd = .exit 0) * (rowS k2 M.row most most * (markH D * (blk k #[.pointer (some ⟨b, 0, none⟩)] 25 * (blk k1 #[.int .i64 most] 3 * (blk b (nA M.most p rows.length c m1 m2) T_net_Net * (tab T_sl_uint8 1 bsF p rows.length c rows * (seH m1 M.sent * (caH m2 M.came * (ST * F)))))))))) (by first | ac_rfl | (dsimp only; ac_rfl))
    obtain rfl := h5.prop
    obtain ⟨qs, K, pp, cc, hs, h6⟩ := rowS.open_ h5.right
    have c2 : w5.cell? (⟨k2, 0, none⟩ : Addr) = some (.slice pp qs.length cc) := by have := cell_blk h6 (i := 0) (v := .slice pp qs.length cc) rfl; rwa [Sp.add_zero] at this
    refine jmp_exit ?_
    refine ldS_ok c2 <| shutD_ok (h6.perm (B := markH D * (blk k2 #[.slice pp qs.length cc] 29 * (pqT pp qs.length cc qs * (K * (blk k #[.pointer (some ⟨b, 0, none⟩)] 25 * (blk k1 #[.int .i64 most] 3 * (blk b (nA M.most p rows.length c m1 m2) T_net_Net * (tab T_sl_uint8 1 bsF p rows.length c rows * (seH m1 M.sent * (caH m2 M.came * (ST * F))))))))))) (by ac_rfl)) fun w6 h7 => ⟨qs, K, pp, cc, rfl, hs.eq, hs.gp, ?_⟩
    exact (NetH.shut hrow (h7.perm (B := (blk k2 #[.slice pp qs.length cc] 29 * (blk k #[.pointer (some ⟨b, 0, none⟩)] 25 * blk k1 #[.int .i64 most] 3)) * (blk b (nA M.most p rows.length c m1 m2) T_net_Net * (tab T_sl_uint8 1 bsF p rows.length c rows * (seH m1 M.sent * (caH m2 M.came * (ST * (F * (pqT pp qs.length cc qs * K)))))))) (by ac_rfl)).right rfl).perm (by ac_rfl)
end
end Go.Proofs.Ytjjnbcdcppnllaa
