/- NetOnce: the walk. No conditions. -/
import Derived.Test.YtjjnbcdcppnllaaN9
set_option linter.unusedVariables false
set_option linter.unusedSimpArgs false
set_option maxRecDepth 100000
set_option maxHeartbeats 4000000
namespace Go.Proofs.Ytjjnbcdcppnllaa
open Go.Sp Go.RowKit

theorem PQs.snoc_sq {F : HP} {ps : List PQ} {x : PK} {n : Int} {p : Option Addr} {l c : Nat} {ip : (sqP x n).ip.length = 16} (h : PQs F ps) (hl : l ≤ 1000) (hg : Gives F 36 p l (x.rs.flatMap orC)) : PQs F (ps ++ [⟨sqP x n, p, l, c, ip⟩]) := by
  refine h.snoc hl ?_
  have e : (sqP x n).rs = x.rs := rfl
  dsimp only
  rw [e]
  exact hg
theorem NetOnce_walk {W : World} {p : Option Addr} {l c : Nat} {xs : List NAct} (hx : NActs W p l xs) (hl : l ≤ 9223372036854775807) :
    call Try.prog fn_tenonlaw23_NetOnce #[.slice p l c] W fun v w' => v = .bool true ∧ Below W.heap.size W w' := by
  apply tenonlaw23_NetOnce_call
  unfold tenonlaw23_NetOnce
  have done : ∀ {w : World} {A : HP}, Sat W (A * old W) w → call Try.prog fn_tenonlaw23_awake #[] w fun v w' => asB v fun b => (Value.bool b) = .bool true ∧ Below W.heap.size W w' := by
    intro w A h
    refine call_mono (tenonlaw23_awake_ok h) ?_
    rintro _ w4 ⟨rfl, h4⟩
    exact asB_ok ⟨rfl, h4.right.below'⟩
  refine call_mono (great_ok hx hl (Sat.start W)) ?_
  rintro _ w1 ⟨rfl, g, rfl, hg⟩
  refine asB_ok <| br_split (fun _ => done (A := emp) (Sat.start w1).with_emp) (fun hgf => ?_)
  have hg := hg hgf
  refine call_mono (net_New_ok (most := 400) (Sat.start w1) (by decide) (by decide)) ?_
  rintro _ w3 ⟨b, rfl, h3⟩
  refine ⟨_, _, rfl, br_false rfl ⟨fun p lp cp q lq cq w => ∃ ps qs M ST, lp = ps.length ∧ lq = qs.length ∧ ps.length ≤ 150 ∧ SC w1 b 150 ps qs M ST ∧ SH w1 b p lp cp q lq cq ps qs M ST emp w, ⟨PI w1 b, ⟨_, [], [], ⟨400, [], fun _ => none, fun _ => none⟩, emp, by decide, by decide, rfl, rfl, rfl, by decide, ⟨OI.start, ⟨by decide, by decide, by decide, (fun x hx => by cases hx), (fun r k h => by cases h)⟩, (fun q hq => by cases hq), (fun q hq => by cases hq)⟩, ?_⟩, ?_⟩, ?_⟩⟩
  · exact (tab_nil T_api_Packet 25 pqF (tab_nil T_api_Packet 25 pqF (h3.with_emp.with_emp))).perm (by ac_rfl)
  · rintro u pp _ cp qq _ cq n w4 m ⟨ps, qs, M, ST, n0, n150, rfl, rfl, rfl, hpn, hs, h4⟩
    have h4 : Sat w1 (tab T_api_Packet 25 pqF pp ps.length cp ps * (tab T_api_Packet 25 pqF qq qs.length cq qs * (NetH b M * (emp * (ST * old w1))))) w4 := h4
    have hql := hs.len
    have out : ∃ ps' qs' M' ST', ps.length = ps'.length ∧ qs.length = qs'.length ∧ ps'.length ≤ 150 ∧ SC w1 b 150 ps' qs' M' ST' ∧ SH w1 b pp ps.length cp qq qs.length cq ps' qs' M' ST' emp w4 := ⟨ps, qs, M, ST, rfl, rfl, by omega, ⟨hs.oi, hs.ok.mono n150, hs.gp, hs.gq⟩, h4⟩
    refine br_dec (fun hlt => br_dec (fun hlt2 => ?_) (fun _ => out)) (fun _ => out)
    refine hx.idx h4.right.right.right.right.right n0 hlt fun ad x hxi hA ld _ => ld <| new_ok h4 fun k18 w5 h5 => stA_ok h5 rfl (acN_size hA.pin.ip) (acN_one x) fun w6 h6 => ?_
    have h6 : Sat w1 (blk k18 (acN x) 37 * (tab T_api_Packet 25 pqF pp ps.length cp ps * (tab T_api_Packet 25 pqF qq qs.length cq qs * (NetH b M * (emp * (ST * old w1)))))) w6 := h6
    have hxl := hg n.toNat x (by omega) hxi
    obtain ⟨k, hk, _, _, _⟩ := tenonref01_Pick_ok x.kd 4 hA.rk.1 hA.rk.2 (by omega) (by omega)
    have hn := h6.perm (B := NetH b M * (tab T_api_Packet 25 pqF pp ps.length cp ps * (tab T_api_Packet 25 pqF qq qs.length cq qs * (emp * (ST * (old w1 * blk k18 (acN x) 37)))))) (by ac_rfl)
    have same : ∀ {M' : NM} {X : HP} {w : World} {ST' : HP}, SC w1 b (n + 1) ps qs M' ST' → Sat w1 (NetH b M' * (tab T_api_Packet 25 pqF pp ps.length cp ps * (tab T_api_Packet 25 pqF qq qs.length cq qs * (emp * (ST' * (old w1 * X)))))) w → arith .i64 (n + 1) fun n31 => ∃ m32, m32 < (150 - n).toNat ∧ PI w1 b pp ps.length cp qq qs.length cq n31 w m32 := fun {M' X w ST'} hs' h =>
      arith_i64 (by omega) (by omega) ⟨(150 - (n + 1)).toNat, by omega, ps, qs, M', ST', by omega, by omega, rfl, rfl, rfl, by omega, hs', (h.perm (B := X * (tab T_api_Packet 25 pqF pp ps.length cp ps * (tab T_api_Packet 25 pqF qq qs.length cq qs * (NetH b M' * (emp * (ST' * old w1)))))) (by ac_rfl)).right⟩
    refine ldI_ok (n := x.kd) (cell_blk h6 (i := 0) rfl) <| call_pure hk <| asI_ok <| br_split (fun _ => ?_) (fun _ => br_split (fun _ => ?_) (fun _ => ?_))
    -- sent
    · refine ldA_blk (o := 2) (n := 25) h6 (by rw [acN_size hA.pin.ip]; decide) ?_
      rw [acN_pk hA.pin.ip]
      refine call_mono (net_Send_ok hn hs.ok (by omega) hA.pin (Gives.right (Gives.right (Gives.right (Gives.right (Gives.left (Gives.old hA.rd)))))) (by omega)) ?_
      obtain ⟨q1, _, _⟩ := hs.ok.send hA.pin n0 (by omega)
      have hoi := hs.oi.send (x := x.x)
      have hno : (sendM M x.x).2.2 ≠ 0 → (sendM M x.x).1 = M := by
        unfold sendM
        split
        · intro _; rfl
        · split
          · intro _; rfl
          · intro h; exact absurd rfl h
      rintro _ w8 ⟨rfl, h8⟩
      generalize sendM M x.x = z at q1 hoi hno h8 ⊢
      refine ⟨_, _, rfl, br_split (fun he => ?_) (fun he => ?_)⟩
      · have he : z.2.2 = 0 := by simpa using he
        have hoi := hoi he
        have h9 := h8.perm (B := blk k18 (acN x) 37 * (NetH b z.1 * (tab T_api_Packet 25 pqF pp ps.length cp ps * (tab T_api_Packet 25 pqF qq qs.length cq qs * (emp * (ST * old w1)))))) (by ac_rfl)
        refine ldA_blk (o := 2) (n := 25) h9 (by rw [acN_size hA.pin.ip]; decide) ?_
        rw [acN_pk hA.pin.ip]
        refine new_ok h9 fun k27 w9 h10 => stPk h10 (pk_size (x := pk0) (v := .slice none 0 0) rfl) hA.pin.ip fun w10 h11 => st_ok (i := 3) h11 (pk_lt (by decide)) fun w11 h12 => ?_
        have e3 : (pkF x.x (.slice x.p x.l x.c)).setIfInBounds 3 (.int .u64 z.2.1) = pkF (sqP x.x z.2.1) (.slice x.p x.l x.c) := by
          rw [pk_set 3 (by decide)]
          rfl
        rw [e3] at h12
        have h12 : Sat w1 (blk k27 (pkF (sqP x.x z.2.1) (.slice x.p x.l x.c)) T_api_Packet * (blk k18 (acN x) 37 * (NetH b z.1 * (tab T_api_Packet 25 pqF pp ps.length cp ps * (tab T_api_Packet 25 pqF qq qs.length cq qs * (emp * (ST * old w1))))))) w11 := h12
        refine ldPk h12 hA.pin.ip ⟨pk_size hA.pin.ip, new_ok h12 fun k29 w12 h13 => pq_app (q := ⟨sqP x.x z.2.1, x.p, x.l, x.c, hA.pin.ip⟩) (h13.perm (B := blk k29 (pkF (sqP x.x z.2.1) (.slice x.p x.l x.c)) T_api_Packet * (tab T_api_Packet 25 pqF pp ps.length cp ps * (blk k27 (pkF (sqP x.x z.2.1) (.slice x.p x.l x.c)) T_api_Packet * (blk k18 (acN x) 37 * (NetH b z.1 * (tab T_api_Packet 25 pqF qq qs.length cq qs * (emp * (ST * old w1)))))))) (by ac_rfl)) (by omega) fun p' c' w13 h14 => ?_⟩
        refine arith_i64 (by omega) (by omega) ⟨(150 - (n + 1)).toNat, by omega, ps ++ [⟨sqP x.x z.2.1, x.p, x.l, x.c, hA.pin.ip⟩], qs, z.1, ST, by omega, by omega, rfl, by simp, rfl, by simp; omega, ⟨by rw [List.map_append]; exact hoi, q1, PQs.snoc_sq hs.gp (by omega) (Gives.right (Gives.old hA.rd)), hs.gq⟩, ?_⟩
        exact (h14.perm (B := (blk k27 (pkF (sqP x.x z.2.1) (.slice x.p x.l x.c)) T_api_Packet * blk k18 (acN x) 37) * (tab T_api_Packet 25 pqF p' (ps.length + 1) c' (ps ++ [⟨sqP x.x z.2.1, x.p, x.l, x.c, hA.pin.ip⟩]) * (tab T_api_Packet 25 pqF qq qs.length cq qs * (NetH b z.1 * (emp * (ST * old w1)))))) (by ac_rfl)).right
      · have he : z.2.2 ≠ 0 := by simpa using he
        rw [hno he] at h8
        exact same ⟨hs.oi, hs.ok.mono (by omega), hs.gp, hs.gq⟩ h8
    -- doubled
    · refine ldI_ok (n := x.i) (cell_blk h6 (i := 1) rfl) <| call_mono (net_Double_ok (i := x.i) hn hs.ok) ?_
      obtain ⟨q1, _, _⟩ := hs.ok.dbl (i := x.i)
      rintro _ w8 ⟨rfl, h8⟩
      exact asI_ok <| same ⟨hs.oi.dbl, q1.mono (by omega), hs.gp, hs.gq⟩ h8
    -- delivered
    · refine ldI_ok (n := x.i) (cell_blk h6 (i := 1) rfl) <| call_mono (net_Deliver_ok (i := x.i) hn hs.ok) ?_
      rintro _ w8 ⟨q, m, d, G, rfl, hm, hG, h8⟩
      obtain ⟨q1, q2, _, _⟩ := hs.ok.del (i := x.i)
      refine ⟨_, _, _, rfl, new_ok h8 fun k45 w9 h9 => stPk h9 (pk_size (x := pk0) (v := .slice none 0 0) rfl) q2.ip fun w10 h10 => ?_⟩
      have h10 : Sat w1 (blk k45 (pkF (delM' M x.i).2.1 (.slice q m d)) T_api_Packet * (G * (NetH b (delM' M x.i).1 * (tab T_api_Packet 25 pqF pp ps.length cp ps * (tab T_api_Packet 25 pqF qq qs.length cq qs * (emp * (ST * (old w1 * blk k18 (acN x) 37)))))))) w10 := h10
      refine br_split (fun he => ?_) (fun he => ?_)
      · have he : (delM' M x.i).2.2.2 = 0 := by simpa using he
        obtain ⟨d1, d2⟩ := hs.del he hm hG (d := d)
        refine br_split (fun hf => ?_) (fun hf => ?_)
        · have d1 := d1 hf
          refine ldPk h10 q2.ip ⟨pk_size q2.ip, new_ok h10 fun k47 w18 h11 => pq_app (q := ⟨(delM' M x.i).2.1, q, m, d, hs.ok.del.2.1.ip⟩) (h11.perm (B := blk k47 (pkF (delM' M x.i).2.1 (.slice q m d)) T_api_Packet * (tab T_api_Packet 25 pqF qq qs.length cq qs * (blk k45 (pkF (delM' M x.i).2.1 (.slice q m d)) T_api_Packet * (G * (NetH b (delM' M x.i).1 * (tab T_api_Packet 25 pqF pp ps.length cp ps * (emp * (ST * (old w1 * blk k18 (acN x) 37))))))))) (by ac_rfl)) (by omega) fun p' c' w19 h12 => ?_⟩
          refine arith_i64 (by omega) (by omega) ⟨(150 - (n + 1)).toNat, by omega, ps, qs ++ [⟨(delM' M x.i).2.1, q, m, d, hs.ok.del.2.1.ip⟩], (delM' M x.i).1, G * ST, by omega, by omega, rfl, rfl, by simp, by omega, ⟨d1.oi, d1.ok.mono (by omega), d1.gp, d1.gq⟩, ?_⟩
          exact (h12.perm (B := (blk k45 (pkF (delM' M x.i).2.1 (.slice q m d)) T_api_Packet * blk k18 (acN x) 37) * (tab T_api_Packet 25 pqF pp ps.length cp ps * (tab T_api_Packet 25 pqF p' (qs.length + 1) c' (qs ++ [⟨(delM' M x.i).2.1, q, m, d, hs.ok.del.2.1.ip⟩]) * (NetH b (delM' M x.i).1 * (emp * ((G * ST) * old w1)))))) (by ac_rfl)).right
        · have d2 := d2 hf
          exact same (X := blk k18 (acN x) 37 * blk k45 (pkF (delM' M x.i).2.1 (.slice q m d)) T_api_Packet) ⟨d2.oi, d2.ok.mono (by omega), d2.gp, d2.gq⟩ (h10.perm (by ac_rfl))
      · have he : (delM' M x.i).2.2.2 ≠ 0 := by simpa using he
        rw [(delM_no he).1] at h10
        exact same (X := blk k18 (acN x) 37 * (G * blk k45 (pkF (delM' M x.i).2.1 (.slice q m d)) T_api_Packet)) ⟨hs.oi, hs.ok.mono (by omega), hs.gp, hs.gq⟩ (h10.perm (by ac_rfl))
  -- all that is under way comes
  rintro u pp _ cp qq _ cq w20 ⟨ps, qs, M, ST, rfl, rfl, hp150, hs, h20⟩
  refine ⟨fun q lq cq w => ∃ qs M ST, lq = qs.length ∧ M.row = [] ∧ SC w1 b 150 ps qs M ST ∧ SH w1 b pp ps.length cp q lq cq ps qs M ST emp w, ⟨fun q lq cq w m => ∃ qs M ST, lq = qs.length ∧ m = M.row.length ∧ SC w1 b 150 ps qs M ST ∧ SH w1 b pp ps.length cp q lq cq ps qs M ST emp w, ⟨_, qs, M, ST, rfl, rfl, hs, h20⟩, ?_⟩, ?_⟩
  · clear hs h20
    rintro u qq _ cq w21 m ⟨qs, M, ST, rfl, rfl, hs, h21⟩
    have h21 : Sat w1 (tab T_api_Packet 25 pqF pp ps.length cp ps * (tab T_api_Packet 25 pqF qq qs.length cq qs * (NetH b M * (emp * (ST * old w1))))) w21 := h21
    have hn := h21.perm (B := NetH b M * (tab T_api_Packet 25 pqF pp ps.length cp ps * (tab T_api_Packet 25 pqF qq qs.length cq qs * (emp * (ST * old w1))))) (by ac_rfl)
    have hql := hs.len
    refine call_mono (net_Len_ok hn) ?_
    rintro _ w22 ⟨rfl, rfl⟩
    refine asI_ok <| br_dec (fun hgt => br_dec (fun hle => ?_) (fun hgt2 => absurd (by omega) hgt2)) (fun hle => ⟨qs, M, ST, rfl, List.eq_nil_of_length_eq_zero (by omega), hs, h21⟩)
    refine call_mono (net_Deliver_ok (i := 0) hn hs.ok) ?_
    rintro _ w23 ⟨q, m, d, G, rfl, hm, hG, h23⟩
    obtain ⟨q1, q2, _, q4⟩ := hs.ok.del (i := 0)
    have he : (delM' M 0).2.2.2 = 0 := by
      by_cases e : (delM' M 0).2.2.2 = 0
      · exact e
      · obtain ⟨x, _, hlo⟩ := loseM_some (M := M) (i := 0) (fun e => by rw [e] at hgt; simp at hgt)
        rw [delM', hlo]
        rfl
    have hlen : (delM' M 0).1.row.length + 1 = M.row.length := by
      rcases q4 with ⟨_, q4⟩ | ⟨q4, _⟩
      · exact q4
      · exact absurd he q4
    obtain ⟨d1, d2⟩ := hs.del he hm hG (d := d)
    refine ⟨_, _, _, rfl, new_ok h23 fun k70 w24 h24 => stPk h24 (pk_size (x := pk0) (v := .slice none 0 0) rfl) q2.ip fun w25 h25 => ?_⟩
    have h25 : Sat w1 (blk k70 (pkF (delM' M 0).2.1 (.slice q m d)) T_api_Packet * (G * (NetH b (delM' M 0).1 * (tab T_api_Packet 25 pqF pp ps.length cp ps * (tab T_api_Packet 25 pqF qq qs.length cq qs * (emp * (ST * old w1))))))) w25 := h25
    refine br_split (fun hf => ?_) (fun hf => ?_)
    · have d1 := d1 hf
      refine ldPk h25 q2.ip ⟨pk_size q2.ip, new_ok h25 fun k72 w26 h26 => pq_app (q := ⟨(delM' M 0).2.1, q, m, d, hs.ok.del.2.1.ip⟩) (h26.perm (B := blk k72 (pkF (delM' M 0).2.1 (.slice q m d)) T_api_Packet * (tab T_api_Packet 25 pqF qq qs.length cq qs * (blk k70 (pkF (delM' M 0).2.1 (.slice q m d)) T_api_Packet * (G * (NetH b (delM' M 0).1 * (tab T_api_Packet 25 pqF pp ps.length cp ps * (emp * (ST * old w1)))))))) (by ac_rfl)) (by omega) fun p' c' w27 h27 => ?_⟩
      exact ⟨_, by omega, qs ++ [PQ.mk (delM' M 0).2.1 q m d hs.ok.del.2.1.ip], (delM' M 0).1, G * ST, by simp, rfl, d1, (h27.perm (B := blk k70 (pkF (delM' M 0).2.1 (.slice q m d)) T_api_Packet * (tab T_api_Packet 25 pqF pp ps.length cp ps * (tab T_api_Packet 25 pqF p' (qs.length + 1) c' (qs ++ [PQ.mk (delM' M 0).2.1 q m d hs.ok.del.2.1.ip]) * (NetH b (delM' M 0).1 * (emp * ((G * ST) * old w1)))))) (by ac_rfl)).right⟩
    · exact ⟨_, by omega, qs, (delM' M 0).1, G * ST, rfl, rfl, d2 hf, (h25.perm (B := blk k70 (pkF (delM' M 0).2.1 (.slice q m d)) T_api_Packet * (tab T_api_Packet 25 pqF pp ps.length cp ps * (tab T_api_Packet 25 pqF qq qs.length cq qs * (NetH b (delM' M 0).1 * (emp * ((G * ST) * old w1)))))) (by ac_rfl)).right⟩
  clear hs h20
  rintro u qq _ cq w28 ⟨qs, M, ST, rfl, hrow, hs, h28⟩
  have h28 : Sat w1 (tab T_api_Packet 25 pqF pp ps.length cp ps * (tab T_api_Packet 25 pqF qq qs.length cq qs * (NetH b M * (emp * (ST * old w1))))) w28 := h28
  obtain ⟨hlen, hone⟩ := hs.oi.done hrow
  have hlen : qs.length = ps.length := by simpa using hlen
  refine br_false (by simp [hlen]) ⟨fun n w m => 0 ≤ n ∧ n ≤ ps.length ∧ m = ps.length - n.toNat ∧ Sat w1 (tab T_api_Packet 25 pqF pp ps.length cp ps * (tab T_api_Packet 25 pqF qq qs.length cq qs * (NetH b M * (emp * (ST * old w1))))) w, ⟨_, by decide, by omega, rfl, h28⟩, ?_⟩
  clear h28
  rintro u n w29 m ⟨n0, nl, rfl, h29⟩
  refine br_dec (fun hlt => ?_) (fun _ => done (A := tab T_api_Packet 25 pqF pp ps.length cp ps * (tab T_api_Packet 25 pqF qq qs.length cq qs * (NetH b M * (emp * ST)))) (h29.perm (by ac_rfl)))
  have hi : n.toNat < ps.length := by omega
  obtain ⟨y, hy⟩ : ∃ y, ps[n.toNat]? = some y := ⟨_, List.getElem?_eq_getElem hi⟩
  have hym := List.mem_of_getElem? hy
  have hc1 := hone y.x (List.mem_map.2 ⟨y, hym, rfl⟩)
  refine ⟨fun k j w m => 0 ≤ j ∧ j ≤ qs.length ∧ m = qs.length - j.toNat ∧ k = (((qs.take j.toNat).map (·.x)).count y.x : Int) ∧ Sat w1 (tab T_api_Packet 25 pqF pp ps.length cp ps * (tab T_api_Packet 25 pqF qq qs.length cq qs * (NetH b M * (emp * (ST * old w1))))) w, ⟨_, by decide, by omega, rfl, by simp, h29⟩, ?_⟩
  clear h29
  rintro u k j w30 m ⟨j0, jl, rfl, rfl, h30⟩
  refine br_dec (fun hjlt => ?_) (fun hjge => ?_)
  · have hj : j.toNat < qs.length := by omega
    obtain ⟨z, hz⟩ : ∃ z, qs[j.toNat]? = some z := ⟨_, List.getElem?_eq_getElem hj⟩
    have hzm := List.mem_of_getElem? hz
    have h30 := h30.drew
    have hcl : ((qs.take j.toNat).map (·.x)).count y.x ≤ ((qs.take j.toNat).map (·.x)).length := List.count_le_length
    rw [List.length_map, List.length_take] at hcl
    have etk : ((qs.take (j + 1).toNat).map (·.x)).count y.x = ((qs.take j.toNat).map (·.x)).count y.x + if z.x = y.x then 1 else 0 := by
      rw [show (j + 1).toNat = j.toNat + 1 by omega, List.take_add_one, hz, List.map_append, List.count_append]
      congr 1
      simp [List.count_cons]
    refine tab_idx pqF_len h30.right.left (by decide) j0 hz fun g hg => pq_ldA h30.right.left hg hz <| tab_idx pqF_len h30.left (by decide) n0 hy fun g hg => pq_ldA h30.left hg hy <| call_mono (ref_Same_ok h30 z.ip y.ip (Gives.right (Gives.right (Gives.right (Gives.right (hs.gq z hzm).2)))) (Gives.right (Gives.right (Gives.right (Gives.right (hs.gp y hym).2)))) (by have := (hs.gq z hzm).1; omega)) ?_
    rintro _ w31 ⟨rfl, h31⟩
    refine asB_ok <| br_split (fun he => ?_) (fun he => ?_)
    · have he : z.x = y.x := by simpa using he
      rw [if_pos he] at etk
      exact arith_i64 (by omega) (by omega) <| arith_i64 (by omega) (by omega) ⟨_, by omega, by omega, by omega, rfl, by rw [etk]; omega, h31⟩
    · have he : z.x ≠ y.x := by simpa using he
      rw [if_neg he] at etk
      exact arith_i64 (by omega) (by omega) ⟨_, by omega, by omega, by omega, rfl, by rw [etk]; omega, h31⟩
  · rw [List.take_of_length_le (by omega), hc1]
    exact br_false rfl <| arith_i64 (by omega) (by omega) ⟨_, by omega, by omega, by omega, rfl, h30⟩
theorem NetOnce_row {W : World} {v : Value} (h : ∃ p l c xs, v = .slice p l c ∧ l ≤ 9223372036854775807 ∧ NActs W p l xs) : call Try.prog fn_tenonlaw23_NetOnce #[v] W fun v w' => v = .bool true ∧ Below W.heap.size W w' := by
  obtain ⟨p, l, c, xs, rfl, hl, hx⟩ := h
  exact NetOnce_walk hx hl
end Go.Proofs.Ytjjnbcdcppnllaa
