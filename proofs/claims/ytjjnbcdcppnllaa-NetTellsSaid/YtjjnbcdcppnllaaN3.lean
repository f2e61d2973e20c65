/- Contracts of layer 23 (net): Lose, Deliver, Double. No conditions. -/
import Derived.Test.YtjjnbcdcppnllaaN2
set_option linter.unusedVariables false
set_option linter.unusedSimpArgs false
set_option maxRecDepth 100000
namespace Go.Proofs.Ytjjnbcdcppnllaa
open Go.Sp Go.RowKit

def loseM (M : NM) (i : Int) : NM × PK × Int := match M.row[(pkI i M.row.length).toNat]? with
  | some x => ({ M with row := M.row.eraseIdx (pkI i M.row.length).toNat }, x, 0)
  | none => (M, pk0, 12)
def mkOf (x : PK) : Mark := ((x.fr, x.to), x.sq)
def delM' (M : NM) (i : Int) : NM × PK × Bool × Int :=
  if (loseM M i).2.2 = 0 then ({ (loseM M i).1 with came := upd M.came (mkOf (loseM M i).2.1) (some ()) }, (loseM M i).2.1, !(M.came (mkOf (loseM M i).2.1)).isSome, 0) else ((loseM M i).1, (loseM M i).2.1, false, (loseM M i).2.2)
def dblM (M : NM) (i : Int) : NM × Int := match M.row[(pkI i M.row.length).toNat]? with
  | some x => if M.most ≤ M.row.length then (M, 3) else ({ M with row := M.row ++ [x] }, 0)
  | none => (M, 12)
theorem pk0_in : PIn pk0 := ⟨⟨by decide, by decide⟩, ⟨by decide, by decide⟩, ⟨by decide, by decide⟩, ⟨by decide, by decide⟩, ⟨by decide, by decide⟩, rfl, by decide, ⟨by decide, by decide⟩, ⟨by decide, by decide⟩, ⟨by decide, by decide⟩⟩
theorem loseM_none {M : NM} {i : Int} (h : M.row = []) : loseM M i = (M, pk0, 12) := by simp [loseM, h]
theorem loseM_some {M : NM} {i : Int} (h : M.row ≠ []) : ∃ x, M.row[(pkI i M.row.length).toNat]? = some x ∧ loseM M i = ({ M with row := M.row.eraseIdx (pkI i M.row.length).toNat }, x, 0) := by
  have hl : 0 < M.row.length := List.length_pos_iff.2 h
  have hr := pkI_range (i := i) hl
  have hlt : (pkI i M.row.length).toNat < M.row.length := by omega
  refine ⟨_, List.getElem?_eq_getElem hlt, ?_⟩
  rw [loseM, List.getElem?_eq_getElem hlt]
section
variable {w₀ w : World} {F : HP} {b : Nat} {M : NM} {n : Int}
theorem stPk {k : Nat} {y : PK} {q : Option Addr} {m d : Nat} {cs : Array Value} {t : TypeId} {K : World → Prop} (h : Sat w₀ (blk k cs t * F) w) (hc : cs.size = 25) (hy : y.ip.length = 16) (hk : ∀ w', Sat w₀ (blk k (pkF y (.slice q m d)) t * F) w' → K w') : stA Try.prog (⟨k, 0, none⟩ : Addr) 25 (pkF y (.slice q m d)) w K :=
  stA_ok h hc (pk_size hy) pk_one hk
theorem net_Lose_ok {i : Int} (h : Sat w₀ (NetH b M * F) w) (hM : NOk M n) :
    call Try.prog fn_net_Net_Lose #[.pointer (some ⟨b, 0, none⟩), .int .i64 i] w fun v w' => ∃ q m d G, v = .tuple #[.agg (pkF (loseM M i).2.1 (.slice q m d)), .int .i64 (loseM M i).2.2] ∧ m ≤ 1 ∧ Gives G 36 q m ((loseM M i).2.1.rs.flatMap orC) ∧ Sat w₀ (G * (NetH b (loseM M i).1 * F)) w' := by
  apply net_Net_Lose_call
  unfold net_Net_Lose
  have hlen := hM.len
  have hm1 := hM.m1
  refine new_ok h fun k1 w1 h1 => ?_
  have h1 : Sat w₀ (blk k1 (pkF pk0 (.slice none 0 0)) T_api_Packet * (NetH b M * F)) w1 := h1
  refine call_mono (net_place_ok (i := i) (h1.perm (B := NetH b M * (blk k1 (pkF pk0 (.slice none 0 0)) T_api_Packet * F)) (by ac_rfl)) (by omega)) ?_
  rintro _ w2 ⟨rfl, ⟨he, rfl⟩ | ⟨hne, rfl⟩⟩
  · rw [loseM_none he]
    refine ⟨_, _, rfl, br_true rfl <| stPk (y := pk0) (q := none) (m := 0) (d := 0) h1 (pk_size rfl) rfl fun w3 h2 => ldPk h2 rfl ⟨none, 0, 0, emp, rfl, by decide, fun _ _ _ => Rd.nil _ _ _, h2.right.with_emp⟩⟩
  · obtain ⟨x, hx, hlo⟩ := loseM_some (i := i) hne
    rw [hlo]
    have hl : 0 < M.row.length := List.length_pos_iff.2 hne
    have hr := pkI_range (i := i) hl
    obtain ⟨k, hk⟩ : ∃ k : Nat, k = (pkI i M.row.length).toNat := ⟨_, rfl⟩
    have hkI : pkI i M.row.length = (k : Int) := by omega
    rw [← hk] at hx ⊢
    rw [hkI]
    have hkl := (List.getElem?_eq_some_iff.1 hx).1
    obtain ⟨ST, rows, p, c, m1, m2, hrow, h2⟩ := NetH.open_ (h1.perm (B := NetH b M * (blk k1 (pkF pk0 (.slice none 0 0)) T_api_Packet * F)) (by ac_rfl))
    have hrl := hrow.len
    obtain ⟨q, hq⟩ : ∃ q, rows[k]? = some q := ⟨_, List.getElem?_eq_getElem (by omega)⟩
    obtain ⟨a1, a2, a3⟩ := hrow.all k q x hq hx
    obtain ⟨xin, xr⟩ := hM.row x (List.mem_of_getElem? hx)
    have xs := encP_small xin xr
    refine ⟨_, _, rfl, br_false rfl <| nn_ok <| ldS_ok (cell_blk h2 (i := 1) rfl) <| tab_idx bsF_len h2.right.left (by decide) (by omega) (by rw [Int.toNat_natCast]; exact hq) fun g hg => ldS_ok (p := q.p) (l := q.l) (c := q.c) (by rw [Int.toNat_natCast]; have := tab_cell bsF_len h2.right.left hg hq (j := 0) (by decide) rfl; rwa [Sp.add_zero] at this) ?_⟩
    refine call_mono (packet_Decode_ok (bs := encP x) (h2.perm (B := ST * (blk b (nA M.most p rows.length c m1 m2) T_net_Net * (tab T_sl_uint8 1 bsF p rows.length c rows * (seH m1 M.sent * (caH m2 M.came * (blk k1 (pkF pk0 (.slice none 0 0)) T_api_Packet * F)))))) (by ac_rfl)) (Gives.left a3) a2 (by omega) (encP_by xin xr)) ?_
    rintro _ w4 ⟨y, q2, m, d, e, G, rfl, yin, hm, hG, h3, ⟨rfl, _, huniq⟩ | ⟨_, _, hno⟩⟩
    case inr => exact absurd ⟨xin, xr, rfl⟩ (hno x)
    have hyx : x = y := huniq x ⟨xin, xr, rfl⟩
    subst hyx
    refine ⟨_, _, rfl, new_ok h3 fun k13 w5 h4 => stPk h4 rfl xin.ip fun w6 h5 => ?_⟩
    have h6 : Sat w₀ (blk b (nA M.most p rows.length c m1 m2) T_net_Net * (tab T_sl_uint8 1 bsF p rows.length c rows * (G * (ST * (blk k13 (pkF x (.slice q2 m d)) T_api_Packet * (seH m1 M.sent * (caH m2 M.came * (blk k1 (pkF pk0 (.slice none 0 0)) T_api_Packet * F)))))))) w6 := h5.perm (by
      show blk k13 (pkF x (.slice q2 m d)) T_api_Packet * _ = _
      ac_rfl)
    refine nn_ok <| ldS_ok (cell_blk h6 (i := 1) rfl) <| arith_i64 (by omega) (by omega) <| call_mono (slices_Delete_ok (i := k) (h6.perm (B := tab T_sl_uint8 1 bsF p rows.length c rows * (blk b (nA M.most p rows.length c m1 m2) T_net_Net * (G * (ST * (blk k13 (pkF x (.slice q2 m d)) T_api_Packet * (seH m1 M.sent * (caH m2 M.came * (blk k1 (pkF pk0 (.slice none 0 0)) T_api_Packet * F)))))))) (by ac_rfl)) (by omega) (by omega)) ?_
    rintro _ w7 ⟨rfl, h7⟩
    refine asS_ok <| nn_ok <| st_ok (i := 1) (h7.perm (B := blk b (nA M.most p rows.length c m1 m2) T_net_Net * (tab T_sl_uint8 1 bsF p (rows.length - 1) c (rows.eraseIdx k) * (G * (ST * (blk k13 (pkF x (.slice q2 m d)) T_api_Packet * (seH m1 M.sent * (caH m2 M.came * (blk k1 (pkF pk0 (.slice none 0 0)) T_api_Packet * F)))))))) (by ac_rfl)) (by simp [nA]) fun w8 h8 => ?_
    have h8 : Sat w₀ (blk b (nA M.most p (rows.length - 1) c m1 m2) T_net_Net * (tab T_sl_uint8 1 bsF p (rows.length - 1) c (rows.eraseIdx k) * (G * (ST * (blk k13 (pkF x (.slice q2 m d)) T_api_Packet * (seH m1 M.sent * (caH m2 M.came * (blk k1 (pkF pk0 (.slice none 0 0)) T_api_Packet * F)))))))) w8 := h8
    refine ldPk h8.right.right.right.right xin.ip <| stPk (h8.perm (B := blk k1 (pkF pk0 (.slice none 0 0)) T_api_Packet * (blk b (nA M.most p (rows.length - 1) c m1 m2) T_net_Net * (tab T_sl_uint8 1 bsF p (rows.length - 1) c (rows.eraseIdx k) * (G * (ST * (blk k13 (pkF x (.slice q2 m d)) T_api_Packet * (seH m1 M.sent * (caH m2 M.came * F)))))))) (by ac_rfl)) (pk_size rfl) xin.ip fun w9 h9 => ldPk h9 xin.ip ⟨q2, m, d, G, rfl, hm, hG, ?_⟩
    have h10 := (h9.perm (B := (blk k1 (pkF x (.slice q2 m d)) T_api_Packet * blk k13 (pkF x (.slice q2 m d)) T_api_Packet) * (blk b (nA M.most p (rows.length - 1) c m1 m2) T_net_Net * (tab T_sl_uint8 1 bsF p (rows.length - 1) c (rows.eraseIdx k) * (seH m1 M.sent * (caH m2 M.came * (ST * (G * F))))))) (by ac_rfl)).right
    exact (NetH.shut (M := { M with row := M.row.eraseIdx k }) (hrow.erase (k := k)) h10 (by rw [List.length_eraseIdx, if_pos (by omega)])).perm (by ac_rfl)
theorem NOk.lose {i : Int} (hM : NOk M n) : NOk (loseM M i).1 n ∧ PIn (loseM M i).2.1 := by
  by_cases he : M.row = []
  · rw [loseM_none he]; exact ⟨hM, pk0_in⟩
  · obtain ⟨x, hx, hlo⟩ := loseM_some (i := i) he
    rw [hlo]
    refine ⟨⟨hM.m0, hM.m1, ?_, fun y hy => hM.row y (List.mem_of_mem_eraseIdx hy), hM.sent⟩, (hM.row x (List.mem_of_getElem? hx)).1⟩
    have := hM.len
    have h2 := List.length_eraseIdx_le (l := M.row) (i := (pkI i M.row.length).toNat)
    dsimp only
    omega
theorem net_Deliver_ok {i : Int} (h : Sat w₀ (NetH b M * F) w) (hM : NOk M n) :
    call Try.prog fn_net_Net_Deliver #[.pointer (some ⟨b, 0, none⟩), .int .i64 i] w fun v w' => ∃ q m d G, v = .tuple #[.agg (pkF (delM' M i).2.1 (.slice q m d)), .bool (delM' M i).2.2.1, .int .i64 (delM' M i).2.2.2] ∧ m ≤ 1 ∧ Gives G 36 q m ((delM' M i).2.1.rs.flatMap orC) ∧ Sat w₀ (G * (NetH b (delM' M i).1 * F)) w' := by
  apply net_Net_Deliver_call
  unfold net_Net_Deliver
  refine new_ok h fun k1 w1 h1 => ?_
  have h1 : Sat w₀ (blk k1 (pkF pk0 (.slice none 0 0)) T_api_Packet * (NetH b M * F)) w1 := h1
  obtain ⟨hM2, hpin⟩ := hM.lose (i := i)
  have hcame : (loseM M i).1.came = M.came := by
    by_cases he : M.row = []
    · rw [loseM_none he]
    · obtain ⟨x, hx, hlo⟩ := loseM_some (i := i) he
      rw [hlo]
  refine call_mono (net_Lose_ok (i := i) (h1.perm (B := NetH b M * (blk k1 (pkF pk0 (.slice none 0 0)) T_api_Packet * F)) (by ac_rfl)) hM) ?_
  rw [delM']
  generalize loseM M i = z at hM2 hpin hcame
  obtain ⟨M2, y, e⟩ := z
  dsimp only at hM2 hpin hcame ⊢
  rintro _ w2 ⟨q, m, d, G, rfl, hm, hG, h2⟩
  have h2 := h2.perm (B := blk k1 (pkF pk0 (.slice none 0 0)) T_api_Packet * (NetH b M2 * (G * F))) (by ac_rfl)
  refine ⟨_, _, rfl, stPk h2 (pk_size rfl) hpin.ip fun w3 h3 => br_split (fun he => ?_) (fun he => ?_)⟩
  · have he : e ≠ 0 := by simpa using he
    rw [if_neg he]
    exact ldPk h3 hpin.ip <| stPk h3 (pk_size hpin.ip) hpin.ip fun w4 h4 => ldPk h4 hpin.ip ⟨q, m, d, G, rfl, hm, hG, h4.right.perm (by ac_rfl)⟩
  · have he : e = 0 := by simpa using he
    rw [if_pos he]
    dsimp only
    refine ldI_ok (n := y.fr) (cell_blk h3 (i := 1) rfl) <| ldI_ok (n := y.to) (cell_blk h3 (i := 2) rfl) <| ldI_ok (n := y.sq) (cell_blk h3 (i := 3) rfl) ⟨rfl, new_ok h3 fun k10 w5 h4 => stA_ok h4 rfl rfl (by simp [Value.oneCell']) fun w6 h5 => ?_⟩
    have h5 : Sat w₀ (NetH b M2 * (blk k10 (mkA (mkOf y)) T_net_mark * (blk k1 (pkF y (.slice q m d)) T_api_Packet * (G * F)))) w6.drew := h5.drew.perm (by
      show blk k10 (mkA (mkOf y)) T_net_mark * _ = _
      ac_rfl)
    obtain ⟨ST, rows, p, c, m1, m2, hrow, h6⟩ := NetH.open_ h5
    rw [hcame] at h6
    have fin : ∀ {w : World} {k17 : Nat}, Sat w₀ (blk k17 #[] 73 * (blk b (nA M2.most p rows.length c m1 m2) T_net_Net * (tab T_sl_uint8 1 bsF p rows.length c rows * (seH m1 M2.sent * (caH m2 M.came * (ST * (blk k10 (mkA (mkOf y)) T_net_mark * (blk k1 (pkF y (.slice q m d)) T_api_Packet * (G * F)))))))) ) w →
        nn (some (⟨b, 0, none⟩ : Addr)) fun a18 => ldM (a18.add 3) w.drew fun r19 => ldA (⟨k10, 0, none⟩ : Addr) 3 w.drew fun g20 => setM Try.prog 60 r19 (.agg g20) (.agg #[]) w.drew fun w9 =>
          ldA (⟨k1, 0, none⟩ : Addr) 25 w9 fun g21 => stA Try.prog (⟨k1, 0, none⟩ : Addr) 25 g21 w9 fun w10 => ldA (⟨k1, 0, none⟩ : Addr) 25 w10 fun g22 =>
            (fun v w' => ∃ q m d G, v = Value.tuple #[.agg (pkF y (.slice q m d)), .bool (!(M.came (mkOf y)).isSome), .int .i64 0] ∧ m ≤ 1 ∧ Gives G 36 q m (y.rs.flatMap orC) ∧ Sat w₀ (G * (NetH b { M2 with came := upd M.came (mkOf y) (some ()) } * F)) w') (.tuple #[.agg g22, .bool (!(M.came (mkOf y)).isSome), .int .i64 0]) w10 := by
      intro w k17 h
      have h := h.drew
      refine nn_ok <| ldM_ok (cell_blk h.right (i := 3) rfl) <| ldA_blk0 (h.right.right.right.right.right.right) rfl <| setM_ok (kf := kM) (vf := vN) (S := fun _ => True) (r := m2) (f := M.came) (v := ()) markTy (x := mkOf y) (h.perm (B := caH m2 M.came * (blk k17 #[] 73 * (blk b (nA M2.most p rows.length c m1 m2) T_net_Net * (tab T_sl_uint8 1 bsF p rows.length c rows * (seH m1 M2.sent * (ST * (blk k10 (mkA (mkOf y)) T_net_mark * (blk k1 (pkF y (.slice q m d)) T_api_Packet * (G * F))))))))) (by ac_rfl)) trivial fun w9 h9 => ?_
      have h9 : Sat w₀ (blk k1 (pkF y (.slice q m d)) T_api_Packet * (blk k17 #[] 73 * (blk b (nA M2.most p rows.length c m1 m2) T_net_Net * (tab T_sl_uint8 1 bsF p rows.length c rows * (seH m1 M2.sent * (caH m2 (upd M.came (mkOf y) (some ())) * (ST * (blk k10 (mkA (mkOf y)) T_net_mark * (G * F))))))))) w9 := Sat.perm h9 (by
        show caH m2 (upd M.came (mkOf y) (some ())) * _ = _
        ac_rfl)
      refine ldPk h9 hpin.ip <| stPk h9 (pk_size hpin.ip) hpin.ip fun w10 h10 => ldPk h10 hpin.ip ⟨q, m, d, G, rfl, hm, hG, ?_⟩
      have h11 := (h10.perm (B := (blk k1 (pkF y (.slice q m d)) T_api_Packet * (blk k17 #[] 73 * blk k10 (mkA (mkOf y)) T_net_mark)) * (blk b (nA M2.most p rows.length c m1 m2) T_net_Net * (tab T_sl_uint8 1 bsF p rows.length c rows * (seH m1 M2.sent * (caH m2 (upd M.came (mkOf y) (some ())) * (ST * (G * F))))))) (by ac_rfl)).right
      exact (NetH.shut (M := { M2 with came := upd M.came (mkOf y) (some ()) }) hrow h11 rfl).perm (by ac_rfl)
    have hval : (M.came (mkOf y)).elim (Value.agg #[]) vN = .agg #[] := by cases M.came (mkOf y) <;> rfl
    refine nn_ok <| ldM_ok (cell_blk h6 (i := 3) rfl) <| ldA_blk0 (h6.right.right.right.right.right) rfl ⟨look1 (kf := kM) (vf := vN) (S := fun _ => True) (r := m2) (f := M.came) markTy (x := mkOf y) h6.right.right.right trivial (show (zeroValue 73).run Try.prog w6.drew = .ok (.agg #[]) w6.drew by kernel_rfl) ?_, new_ok h6 fun k23 w11 h7 => look1 (kf := kM) (vf := vN) (S := fun _ => True) (r := m2) (f := M.came) markTy (x := mkOf y) h7.right.right.right.right trivial (show (zeroValue 73).run Try.prog w11 = .ok (.agg #[]) w11 by kernel_rfl) ?_⟩
    · rw [hval]
      exact ⟨_, _, rfl, new_ok h6 fun k17 w7 h7 => stA_ok h7 rfl rfl (by simp) fun w8 h8 => fin h8⟩
    · rw [hval]
      exact ⟨_, _, rfl, stA_ok h7 rfl rfl (by simp) fun w8 h8 => fin h8⟩
theorem net_Double_ok {i : Int} (h : Sat w₀ (NetH b M * F) w) (hM : NOk M n) :
    call Try.prog fn_net_Net_Double #[.pointer (some ⟨b, 0, none⟩), .int .i64 i] w fun v w' => v = .int .i64 (dblM M i).2 ∧ Sat w₀ (NetH b (dblM M i).1 * F) w' := by
  apply net_Net_Double_call
  unfold net_Net_Double
  have hlen := hM.len
  have hm1 := hM.m1
  refine call_mono (net_place_ok (i := i) h (by omega)) ?_
  rintro _ w2 ⟨rfl, ⟨he, rfl⟩ | ⟨hne, rfl⟩⟩
  · have e : dblM M i = (M, 12) := by simp [dblM, he]
    rw [e]
    exact ⟨_, _, rfl, br_true rfl ⟨rfl, h⟩⟩
  · have hl : 0 < M.row.length := List.length_pos_iff.2 hne
    have hr := pkI_range (i := i) hl
    obtain ⟨k, hk⟩ : ∃ k : Nat, k = (pkI i M.row.length).toNat := ⟨_, rfl⟩
    have hkI : pkI i M.row.length = (k : Int) := by omega
    obtain ⟨x, hx⟩ : ∃ x, M.row[k]? = some x := ⟨_, List.getElem?_eq_getElem (by omega)⟩
    rw [dblM, ← hk, hx]
    dsimp only
    rw [hkI]
    have h := h.drew
    obtain ⟨ST, rows, p, c, m1, m2, hrow, h2⟩ := NetH.open_ h
    have hrl := hrow.len
    refine ⟨_, _, rfl, br_false rfl <| nn_ok <| ldS_ok (cell_blk h2 (i := 1) rfl) <| nn_ok <| ldI_ok (n := M.most) (cell_blk h2 (i := 0) rfl) <| br_dec (fun hge => ?_) (fun hlt => ?_)⟩
    · rw [if_pos (by omega)]; exact ⟨rfl, h⟩
    · rw [if_neg (by omega)]
      have h2 := h2.drew
      obtain ⟨q, hq⟩ : ∃ q, rows[k]? = some q := ⟨_, List.getElem?_eq_getElem (by omega)⟩
      obtain ⟨a1, a2, a3⟩ := hrow.all k q x hq hx
      refine nn_ok <| ldS_ok (cell_blk h2 (i := 1) rfl) <| nn_ok <| ldS_ok (cell_blk h2 (i := 1) rfl) <| tab_idx bsF_len h2.right.left (by decide) (by omega) (by rw [Int.toNat_natCast]; exact hq) fun g hg => ldS_ok (p := q.p) (l := q.l) (c := q.c) (by rw [Int.toNat_natCast]; have := tab_cell bsF_len h2.right.left hg hq (j := 0) (by decide) rfl; rwa [Sp.add_zero] at this) <| new_ok h2 fun k14 w3 h3 => ?_
      refine tab_app bssTy bsF_len (by decide) bsF_one (x := q) (h3.perm (B := blk k14 #[.slice q.p q.l q.c] T_sl_uint8 * (tab T_sl_uint8 1 bsF p rows.length c rows * (blk b (nA M.most p rows.length c m1 m2) T_net_Net * (seH m1 M.sent * (caH m2 M.came * (ST * F)))))) (by ac_rfl)) rfl (by simp only [maxLen]; omega) (by omega) fun p' c' w4 h4 => ?_
      refine nn_ok <| st_ok (i := 1) (h4.perm (B := blk b (nA M.most p rows.length c m1 m2) T_net_Net * (tab T_sl_uint8 1 bsF p' (rows.length + 1) c' (rows ++ [q]) * (seH m1 M.sent * (caH m2 M.came * (ST * F))))) (by ac_rfl)) (by simp [nA]) fun w5 h5 => ⟨rfl, ?_⟩
      exact NetH.shut (M := { M with row := M.row ++ [x] }) (hrow.snoc a1 a2 a3) h5 (by simp)
end
end Go.Proofs.Ytjjnbcdcppnllaa
