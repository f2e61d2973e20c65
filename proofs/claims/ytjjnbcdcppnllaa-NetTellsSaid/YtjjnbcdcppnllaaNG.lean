/- The net and the document's: an act done to both. No conditions. -/
import Derived.Test.YtjjnbcdcppnllaaNF
set_option linter.unusedVariables false
set_option linter.unusedSimpArgs false
set_option maxRecDepth 100000
namespace Go.Proofs.Ytjjnbcdcppnllaa
open Go.Sp Go.RowKit

section
variable {w W : World} {F : HP} {n : Int} {M : NM} {X : RN} {b r : Nat}
theorem do_ok {x : NAct} {ad : Addr} (h : Sat W (NetH b M * (RNet r X * (F * old W))) w) (hB : RB W n M X) (n0 : 0 ≤ n) (n1 : n ≤ 200) (hA : NActAt W ad x) (hxl : x.l ≤ 5) :
    call Try.prog fn_tenonlaw23_do #[.pointer (some ⟨b, 0, none⟩), .pointer (some ⟨r, 0, none⟩), .agg (acN x)] w fun v w' => v = .bool true ∧ ∃ M' X', RB W (n + 1) M' X' ∧ Sat W (NetH b M' * (RNet r X' * (F * old W))) w' := by
  apply tenonlaw23_do_call
  unfold tenonlaw23_do
  have hx := hA.pin
  have hlen := hB.len
  have hrl := hB.rl
  have hls := hB.ls
  have hlc := hB.lc
  have hm1 : X.most ≤ 65536 := by have := hB.ok.m1; rw [hB.most] at this; exact this
  have hk := pkI_range (i := x.kd) (n := 7) (by decide)
  obtain ⟨kd, hkd⟩ : ∃ kd, kd = pkI x.kd 7 := ⟨_, rfl⟩
  rw [← hkd] at hk
  have gO : ∀ {A B C : HP}, Gives (A * (B * (C * old W))) 36 x.p x.l (x.x.rs.flatMap orC) := fun {A B C} => Gives.right (Gives.right (Gives.right (Gives.old hA.rd)))
  refine new_ok h fun k1 w1 h1 => ?_
  have h1 : Sat W (blk k1 (acN x) 37 * (NetH b M * (RNet r X * (F * old W)))) w1 := h1
  refine ldI_ok (n := x.kd) (cell_blk h1 (i := 0) rfl) <| call_pure (pick_at (n := 7) hA.rk.1 hA.rk.2 (by decide) (by decide)) <| asI_ok ?_
  rw [← hkd]
  have lp : ∀ {A B C D : HP} {w : World} {K : Array Value → Prop}, Sat W (A * (B * (C * (D * (old W * blk k1 (acN x) 37))))) w → K (pkF x.x (.slice x.p x.l x.c)) → ldA ((⟨k1, 0, none⟩ : Addr).add 2) 25 w K := by
    intro A B C D w K h hK
    refine ldA_blk (o := 2) (n := 25) (h.perm (B := blk k1 (acN x) 37 * (A * (B * (C * (D * old W))))) (by ac_rfl)) (by rw [acN_size hx.ip]; decide) ?_
    rw [acN_pk hx.ip]
    exact hK
  refine br_dec (fun _ => ?_) (fun hk2 => ?_)
  -- sent
  · refine ldA_blk (o := 2) (n := 25) h1 (by rw [acN_size hx.ip]; decide) ?_
    rw [acN_pk hx.ip]
    refine call_mono (net_Send_ok (h1.perm (B := NetH b M * (RNet r X * (F * (blk k1 (acN x) 37 * old W)))) (by ac_rfl)) hB.ok (by omega) hx (Gives.right (Gives.right (Gives.right (Gives.old hA.rd)))) (by omega)) ?_
    have hs := hB.send (q := ⟨x.x, x.p, x.l, x.c, hx.ip⟩) hx n0 (by omega) hxl (Gives.old hA.rd)
    rintro _ w3 ⟨rfl, h3⟩
    obtain ⟨hs1, hs2⟩ := hs
    dsimp only at hs1 hs2
    generalize sendM M x.x = z at hs1 hs2 h3
    refine ⟨_, _, rfl, ?_⟩
    refine ldA_blk (o := 2) (n := 25) (h3.perm (B := blk k1 (acN x) 37 * (NetH b z.1 * (RNet r X * (F * old W)))) (by ac_rfl)) (by rw [acN_size hx.ip]; decide) ?_
    rw [acN_pk hx.ip]
    refine call_mono (ref_Send_ok (q := ⟨x.x, x.p, x.l, x.c, hx.ip⟩) (h3.perm (B := RNet r X * (NetH b z.1 * (F * (blk k1 (acN x) 37 * old W)))) (by ac_rfl)) hx (Gives.right (Gives.right (Gives.right (Gives.old hA.rd)))) (by omega) (by omega)) ?_
    rintro _ w4 ⟨rfl, h4⟩
    rw [hs2]
    refine ⟨_, _, rfl, br_true (by simp) ⟨by simp, z.1, _, hs1, ?_⟩⟩
    exact (h4.perm (B := blk k1 (acN x) 37 * (NetH b z.1 * (RNet r _ * (F * old W)))) (by ac_rfl)).right
  obtain ⟨p, c, p2, c2, p3, c3, ho⟩ := RNet.open_ (h1.perm (B := RNet r X * (NetH b M * (F * (blk k1 (acN x) 37 * old W)))) (by ac_rfl))
  refine nn_ok <| ldS_ok (cell_blk ho (i := 1) rfl) <| br_split (fun hz => ?_) (fun hz => ?_)
  -- nothing under way
  · have hz : (X.row.length : Int) = 0 := by simpa using hz
    have hMr : M.row = [] := List.eq_nil_of_length_eq_zero (by omega)
    have hd : delM' M x.i = (M, pk0, false, 12) := by rw [delM', loseM_none hMr]; rfl
    have hlo : loseM M x.i = (M, pk0, 12) := loseM_none hMr
    have hdb : dblM M x.i = (M, 12) := by rw [dblM, hMr]; rfl
    refine ldI_ok (n := x.i) (cell_blk h1 (i := 1) rfl) <| call_mono (net_Deliver_ok (i := x.i) (h1.perm (B := NetH b M * (RNet r X * (F * (blk k1 (acN x) 37 * old W)))) (by ac_rfl)) hB.ok) ?_
    rw [hd]
    rintro _ w5 ⟨q, m, d, G, rfl, hm, hG, h5⟩
    refine ⟨_, _, _, rfl, new_ok h5 fun k20 w6 h6 => stPk h6 (pk_size (x := pk0) (v := .slice none 0 0) rfl) rfl fun w7 h7 => ?_⟩
    have h7 : Sat W (blk k20 (pkF pk0 (.slice q m d)) T_api_Packet * (G * (NetH b M * (RNet r X * (F * (blk k1 (acN x) 37 * old W)))))) w7 := h7
    refine ldI_ok (n := x.i) (cell_blk (h7.perm (B := blk k1 (acN x) 37 * (blk k20 (pkF pk0 (.slice q m d)) T_api_Packet * (G * (NetH b M * (RNet r X * (F * old W)))))) (by ac_rfl)) (i := 1) rfl) <| call_mono (net_Lose_ok (i := x.i) (h7.perm (B := NetH b M * (blk k20 (pkF pk0 (.slice q m d)) T_api_Packet * (G * (RNet r X * (F * (blk k1 (acN x) 37 * old W)))))) (by ac_rfl)) hB.ok) ?_
    rw [hlo]
    rintro _ w8 ⟨q', m', d', G', rfl, hm', hG', h8⟩
    refine ⟨_, _, rfl, new_ok h8 fun k25 w9 h9 => stPk h9 (pk_size (x := pk0) (v := .slice none 0 0) rfl) rfl fun w10 h10 => ?_⟩
    have h10 : Sat W (blk k25 (pkF pk0 (.slice q' m' d')) T_api_Packet * (G' * (NetH b M * (blk k20 (pkF pk0 (.slice q m d)) T_api_Packet * (G * (RNet r X * (F * (blk k1 (acN x) 37 * old W)))))))) w10 := h10
    refine ldPk (h10.perm (B := blk k20 (pkF pk0 (.slice q m d)) T_api_Packet * (G * (blk k25 (pkF pk0 (.slice q' m' d')) T_api_Packet * (G' * (NetH b M * (RNet r X * (F * (blk k1 (acN x) 37 * old W)))))))) (by ac_rfl)) rfl ?_
    refine call_mono (ref_Same_ok (x := pk0) (y := pk0) (p := q) (l := m) (c := d) (q := none) (m := 0) (d := 0) h10 rfl rfl (Gives.right (Gives.right (Gives.right (Gives.right (Gives.left hG))))) (fun _ _ _ => Rd.nil _ _ _) (by omega)) ?_
    rintro _ w11 ⟨rfl, h11⟩
    refine asB_ok <| br_true (by simp) <| br_true rfl <| br_true rfl <| ldPk h11 rfl ?_
    refine call_mono (ref_Same_ok (x := pk0) (y := pk0) (p := q') (l := m') (c := d') (q := none) (m := 0) (d := 0) h11 rfl rfl (Gives.right (Gives.left hG')) (fun _ _ _ => Rd.nil _ _ _) (by omega)) ?_
    rintro _ w12 ⟨rfl, h12⟩
    refine asB_ok <| br_true (by simp) <| br_true rfl <| ldI_ok (n := x.i) (cell_blk (h12.perm (B := blk k1 (acN x) 37 * (blk k25 (pkF pk0 (.slice q' m' d')) T_api_Packet * (G' * (NetH b M * (blk k20 (pkF pk0 (.slice q m d)) T_api_Packet * (G * (RNet r X * (F * old W)))))))) (by ac_rfl)) (i := 1) rfl) <| call_mono (net_Double_ok (i := x.i) (h12.perm (B := NetH b M * (blk k25 (pkF pk0 (.slice q' m' d')) T_api_Packet * (G' * (blk k20 (pkF pk0 (.slice q m d)) T_api_Packet * (G * (RNet r X * (F * (blk k1 (acN x) 37 * old W)))))))) (by ac_rfl)) hB.ok) ?_
    rw [hdb]
    rintro _ w13 ⟨rfl, h13⟩
    refine asI_ok ⟨rfl, M, X, hB.mono (by omega), ?_⟩
    exact (h13.perm (B := (blk k25 (pkF pk0 (.slice q' m' d')) T_api_Packet * (G' * (blk k20 (pkF pk0 (.slice q m d)) T_api_Packet * (G * blk k1 (acN x) 37)))) * (NetH b M * (RNet r X * (F * old W)))) (by ac_rfl)).right
  have hz : X.row.length ≠ 0 := by intro e; rw [e] at hz; exact absurd hz (by decide)
  have hne : X.row ≠ [] := fun e => hz (by rw [e]; rfl)
  refine ⟨fun bb w => w = w1 ∧ bb = decide (kd = 3 ∨ kd = 4), br_split (fun e => ?_) (fun e => ?_), ?_⟩
  · have e : kd = 3 := by simpa using e
    subst e
    exact ⟨rfl, by decide⟩
  · have e : kd ≠ 3 := by simpa using e
    refine ⟨rfl, ?_⟩
    by_cases e4 : kd = 4
    · subst e4; decide
    · rw [decide_eq_false (by omega)]
      simpa using e4
  rintro _ _ _ ⟨rfl, rfl⟩
  refine br_dec (fun hk3 => ?_) (fun hk3 => ?_)
  -- delivered
  · refine ldI_ok (n := x.i) (cell_blk h1 (i := 1) rfl) <| call_mono (net_Deliver_ok (i := x.i) (h1.perm (B := NetH b M * (RNet r X * (F * (blk k1 (acN x) 37 * old W)))) (by ac_rfl)) hB.ok) ?_
    obtain ⟨y, hy, hym, hd, hB'⟩ := hB.fresh (i := x.i) hne
    rw [hd]
    dsimp only
    generalize (delM' M x.i).1 = M' at hB'
    rintro _ w5 ⟨q, m, d, G, rfl, hm, hG, h5⟩
    refine ⟨_, _, _, rfl, new_ok h5 fun k43 w6 h6 => stPk h6 (pk_size (x := pk0) (v := .slice none 0 0) rfl) y.ip fun w7 h7 => ?_⟩
    have h7 : Sat W (blk k43 (pkF y.x (.slice q m d)) T_api_Packet * (G * (NetH b M' * (RNet r X * (F * (blk k1 (acN x) 37 * old W)))))) w7 := h7
    refine ldI_ok (n := x.i) (cell_blk (h7.perm (B := blk k1 (acN x) 37 * (blk k43 (pkF y.x (.slice q m d)) T_api_Packet * (G * (NetH b M' * (RNet r X * (F * old W)))))) (by ac_rfl)) (i := 1) rfl) <| call_mono (ref_Take_ok (i := x.i) (h7.perm (B := RNet r X * (blk k43 (pkF y.x (.slice q m d)) T_api_Packet * (G * (NetH b M' * (F * (blk k1 (acN x) 37 * old W)))))) (by ac_rfl)) hA.ri.1 hA.ri.2 (by omega) hy) ?_
    rintro _ w8 ⟨rfl, h8⟩
    refine asA_ok <| new_ok h8 fun k47 w9 h9 => stPk h9 (pk_size (x := pk0) (v := .slice none 0 0) rfl) y.ip fun w10 h10 => ?_
    have h10 : Sat W (blk k47 (pkF y.x (.slice y.p y.l y.c)) T_api_Packet * (RNet r (takX X x.i) * (blk k43 (pkF y.x (.slice q m d)) T_api_Packet * (G * (NetH b M' * (F * (blk k1 (acN x) 37 * old W))))))) w10 := h10
    refine ldPk (h10.perm (B := blk k43 (pkF y.x (.slice q m d)) T_api_Packet * (blk k47 (pkF y.x (.slice y.p y.l y.c)) T_api_Packet * (RNet r (takX X x.i) * (G * (NetH b M' * (F * (blk k1 (acN x) 37 * old W))))))) (by ac_rfl)) y.ip <| ldPk h10 y.ip ?_
    refine call_mono (ref_Same_ok h10 y.ip y.ip (Gives.right (Gives.right (Gives.right (Gives.left hG)))) (Gives.right (Gives.right (Gives.right (Gives.right (Gives.right (Gives.right (Gives.right (hB.gr y hym).2))))))) (by omega)) ?_
    rintro _ w11 ⟨rfl, h11⟩
    refine asB_ok <| br_true (by simp) <| ldPk h11 y.ip <| call_mono (ref_Fresh_ok (q := y) (X := takX X x.i) (h11.perm (B := RNet r (takX X x.i) * (blk k47 (pkF y.x (.slice y.p y.l y.c)) T_api_Packet * (blk k43 (pkF y.x (.slice q m d)) T_api_Packet * (G * (NetH b M' * (F * (blk k1 (acN x) 37 * old W))))))) (by ac_rfl)) (by show X.came.length ≤ 70000; omega)) ?_
    rintro _ w12 ⟨rfl, h12⟩
    refine asB_ok <| br_true (by simp) ⟨rfl, M', _, hB', ?_⟩
    exact (h12.perm (B := (blk k47 (pkF y.x (.slice y.p y.l y.c)) T_api_Packet * (blk k43 (pkF y.x (.slice q m d)) T_api_Packet * (G * blk k1 (acN x) 37))) * (NetH b M' * (RNet r _ * (F * old W)))) (by ac_rfl)).right
  refine br_split (fun hk5 => ?_) (fun hk5 => ?_)
  -- lost
  · refine ldI_ok (n := x.i) (cell_blk h1 (i := 1) rfl) <| call_mono (net_Lose_ok (i := x.i) (h1.perm (B := NetH b M * (RNet r X * (F * (blk k1 (acN x) 37 * old W)))) (by ac_rfl)) hB.ok) ?_
    obtain ⟨y, hy, hym, hd, _, hB'⟩ := hB.take (i := x.i) hne
    rw [hd]
    dsimp only
    generalize (loseM M x.i).1 = M' at hB'
    rintro _ w5 ⟨q, m, d, G, rfl, hm, hG, h5⟩
    refine ⟨_, _, rfl, new_ok h5 fun k59 w6 h6 => stPk h6 (pk_size (x := pk0) (v := .slice none 0 0) rfl) y.ip fun w7 h7 => ?_⟩
    have h7 : Sat W (blk k59 (pkF y.x (.slice q m d)) T_api_Packet * (G * (NetH b M' * (RNet r X * (F * (blk k1 (acN x) 37 * old W)))))) w7.drew := Sat.drew h7
    refine ldPk h7 y.ip <| ldI_ok (n := x.i) (cell_blk (h7.perm (B := blk k1 (acN x) 37 * (blk k59 (pkF y.x (.slice q m d)) T_api_Packet * (G * (NetH b M' * (RNet r X * (F * old W)))))) (by ac_rfl)) (i := 1) rfl) <| call_mono (ref_Take_ok (i := x.i) (h7.perm (B := RNet r X * (blk k59 (pkF y.x (.slice q m d)) T_api_Packet * (G * (NetH b M' * (F * (blk k1 (acN x) 37 * old W)))))) (by ac_rfl)) hA.ri.1 hA.ri.2 (by omega) hy) ?_
    rintro _ w8 ⟨rfl, h8⟩
    have h8 : Sat W (RNet r (takX X x.i) * (blk k59 (pkF y.x (.slice q m d)) T_api_Packet * (G * (NetH b M' * (F * (blk k1 (acN x) 37 * old W)))))) w8 := h8
    refine asA_ok <| keepS_blk0 h8.right <| call_mono (ref_Same_ok h8 y.ip y.ip (Gives.right (Gives.right (Gives.left hG))) (Gives.right (Gives.right (Gives.right (Gives.right (Gives.right (Gives.right (hB.gr y hym).2)))))) (by omega)) ?_
    rintro _ w11 ⟨rfl, h11⟩
    refine asB_ok <| br_true (by simp) ⟨rfl, M', _, hB'.mono (by omega), ?_⟩
    exact (h11.perm (B := (blk k59 (pkF y.x (.slice q m d)) T_api_Packet * (G * blk k1 (acN x) 37)) * (NetH b M' * (RNet r _ * (F * old W)))) (by ac_rfl)).right
  -- doubled
  refine ldI_ok (n := x.i) (cell_blk h1 (i := 1) rfl) <| call_mono (net_Double_ok (i := x.i) (h1.perm (B := NetH b M * (RNet r X * (F * (blk k1 (acN x) 37 * old W)))) (by ac_rfl)) hB.ok) ?_
  obtain ⟨hB', he⟩ := hB.dbl (i := x.i)
  rw [he]
  generalize (dblM M x.i).1 = M' at hB'
  have hpk := pkI_range (i := x.i) (n := X.row.length) (by omega)
  obtain ⟨y, hy⟩ : ∃ y, X.row[(pkI x.i X.row.length).toNat]? = some y := ⟨_, List.getElem?_eq_getElem (by omega)⟩
  rintro _ w5 ⟨rfl, h5⟩
  obtain ⟨p, c, p2, c2, p3, c3, h6⟩ := RNet.open_ (h5.drew.perm (B := RNet r X * (blk k1 (acN x) 37 * (NetH b M' * (F * old W)))) (by ac_rfl))
  refine asI_ok <| nn_ok <| ldS_ok (cell_blk h6 (i := 1) rfl) <| nn_ok <| ldI_ok (n := X.most) (cell_blk h6 (i := 0) rfl) <| br_dec (fun hge => ?_) (fun hlt => ?_)
  · have hX : dblX X x.i = (X, 3) := by rw [dblX, hy]; dsimp only; rw [if_pos hge]
    rw [hX] at hB' ⊢
    exact ⟨rfl, M', X, hB', (h5.drew.perm (B := blk k1 (acN x) 37 * (NetH b M' * (RNet r X * (F * old W)))) (by ac_rfl)).right⟩
  · have hX : dblX X x.i = ({ X with row := X.row ++ [y] }, 0) := by rw [dblX, hy]; dsimp only; rw [if_neg hlt]
    rw [hX] at hB' ⊢
    dsimp only at hB' ⊢
    have h6 := h6.drew
    have fin : ∀ {w : World} {k k86 : Nat} {A : HP}, Sat W (blk k86 (pkF y.x (.slice y.p y.l y.c)) T_api_Packet * (pqT p X.row.length c X.row * (blk r (rA X.most p X.row.length c p2 X.sent.length c2 p3 X.came.length c3) T_tenonref23_Net * (pqT p2 X.sent.length c2 X.sent * (pqT p3 X.came.length c3 X.came * (NetH b M' * (F * (A * old W)))))))) w →
        runsS Try.prog (Builtin.append_ #[T_sl_api_Packet, T_sl_api_Packet] T_sl_api_Packet #[.slice p X.row.length c, .slice (some ⟨k86, 0, none⟩) 1 1]) w fun p87 l87 c87 w33 =>
          nn (some (⟨r, 0, none⟩ : Addr)) fun a88 => st (a88.add 1) (.slice p87 l87 c87) w33 fun w34 => (Value.bool ((0 : Int) == 0)) = .bool true ∧ ∃ M' X', RB W (n + 1) M' X' ∧ Sat W (NetH b M' * (RNet r X' * (F * old W))) w34 := by
      intro w k k86 A h
      refine pq_app (q := y) h (by omega) fun p' c' w4 h4 => nn_ok <| st_ok (i := 1) (h4.perm (B := blk r (rA X.most p X.row.length c p2 X.sent.length c2 p3 X.came.length c3) T_tenonref23_Net * (tab T_api_Packet 25 pqF p' (X.row.length + 1) c' (X.row ++ [y]) * (pqT p2 X.sent.length c2 X.sent * (pqT p3 X.came.length c3 X.came * (NetH b M' * (F * (A * old W))))))) (by ac_rfl)) (by simp [rA]) fun w5 h5 => ⟨rfl, M', _, hB', ?_⟩
      have h5 : Sat W (blk r (rA X.most p' (X.row.length + 1) c' p2 X.sent.length c2 p3 X.came.length c3) T_tenonref23_Net * (pqT p' (X.row.length + 1) c' (X.row ++ [y]) * (pqT p2 X.sent.length c2 X.sent * (pqT p3 X.came.length c3 X.came * (NetH b M' * (F * (A * old W))))))) w5 := h5
      exact ((RNet.shut (X := { X with row := X.row ++ [y] }) h5 (by simp) rfl rfl).perm (B := A * (NetH b M' * (RNet r { X with row := X.row ++ [y] } * (F * old W)))) (by ac_rfl)).right
    refine nn_ok <| ldS_ok (cell_blk h6 (i := 1) rfl) <| ldI_ok (n := x.i) (cell_blk h6.right.right.right.right (i := 1) rfl) <| nn_ok <| ldS_ok (cell_blk h6 (i := 1) rfl) ⟨?_, ?_⟩
    · refine call_pure (pick_at hA.ri.1 hA.ri.2 (by omega) (by omega)) <| asI_ok ⟨cell_blk h6 (i := 1) rfl, tab_idx pqF_len h6.right.left (by decide) hpk.1 hy fun g hg => pq_ldA h6.right.left hg hy <| new_ok h6 fun k82 w7 h7 => stPk h7 (pk_size (x := pk0) (v := .slice none 0 0) rfl) y.ip fun w8 h8 => ?_⟩
      have h8 : Sat W (blk k82 (pkF y.x (.slice y.p y.l y.c)) T_api_Packet * (blk r (rA X.most p X.row.length c p2 X.sent.length c2 p3 X.came.length c3) T_tenonref23_Net * (pqT p X.row.length c X.row * (pqT p2 X.sent.length c2 X.sent * (pqT p3 X.came.length c3 X.came * (blk k1 (acN x) 37 * (NetH b M' * (F * old W)))))))) w8.drew := Sat.drew h8
      refine nn_ok <| ldS_ok (cell_blk h8.right (i := 1) rfl) <| ldPk h8 y.ip ⟨pk_size y.ip, new_ok h8 fun k86 w9 h9 => fin (k := k86) (A := blk k1 (acN x) 37 * blk k82 (pkF y.x (.slice y.p y.l y.c)) T_api_Packet) (h9.perm (by show blk k86 (pkF y.x (.slice y.p y.l y.c)) T_api_Packet * _ = _; ac_rfl))⟩
    · refine new_ok h6 fun k89 w7 h7 => ?_
      have h7 : Sat W (blk k89 (pkF pk0 (.slice none 0 0)) T_api_Packet * (blk r (rA X.most p X.row.length c p2 X.sent.length c2 p3 X.came.length c3) T_tenonref23_Net * (pqT p X.row.length c X.row * (pqT p2 X.sent.length c2 X.sent * (pqT p3 X.came.length c3 X.came * (blk k1 (acN x) 37 * (NetH b M' * (F * old W)))))))) w7 := h7
      refine call_pure (pick_at hA.ri.1 hA.ri.2 (by omega) (by omega)) <| asI_ok ⟨cell_blk h7.right (i := 1) rfl, tab_idx pqF_len h7.right.right.left (by decide) hpk.1 hy fun g hg => pq_ldA h7.right.right.left hg hy <| stPk h7 (pk_size (x := pk0) (v := .slice none 0 0) rfl) y.ip fun w8 h8 => ?_⟩
      have h8 : Sat W (blk k89 (pkF y.x (.slice y.p y.l y.c)) T_api_Packet * (blk r (rA X.most p X.row.length c p2 X.sent.length c2 p3 X.came.length c3) T_tenonref23_Net * (pqT p X.row.length c X.row * (pqT p2 X.sent.length c2 X.sent * (pqT p3 X.came.length c3 X.came * (blk k1 (acN x) 37 * (NetH b M' * (F * old W)))))))) w8.drew := Sat.drew h8
      refine nn_ok <| ldS_ok (cell_blk h8.right (i := 1) rfl) <| ldPk h8 y.ip ⟨pk_size y.ip, new_ok h8 fun k97 w9 h9 => fin (k := k97) (A := blk k1 (acN x) 37 * blk k89 (pkF y.x (.slice y.p y.l y.c)) T_api_Packet) (h9.perm (by show blk k97 (pkF y.x (.slice y.p y.l y.c)) T_api_Packet * _ = _; ac_rfl))⟩
end
end Go.Proofs.Ytjjnbcdcppnllaa
