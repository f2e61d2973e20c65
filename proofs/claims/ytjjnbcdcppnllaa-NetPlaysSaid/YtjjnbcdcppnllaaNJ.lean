/- NetPlays, NetTells: the walks. No conditions. -/
import Derived.Test.YtjjnbcdcppnllaaNI
set_option linter.unusedVariables false
set_option linter.unusedSimpArgs false
set_option maxRecDepth 100000
namespace Go.Proofs.Ytjjnbcdcppnllaa
open Go.Sp Go.RowKit

theorem pq_rd {w : World} {p : Option Addr} {l : Nat} {i : Int} {qs : List PQ} {q : PQ} {K : Array Value → Prop} (h : Rd w 25 p l (qs.flatMap pqF)) (h0 : 0 ≤ i) (hq : qs[i.toNat]? = some q) (hk : K (pkF q.x (.slice q.p q.l q.c))) :
    idx p l i 25 fun a => ldA a 25 w K := by
  have hl := h.1
  rw [flatLen pqF_len] at hl
  have hlt := (List.getElem?_eq_some_iff.1 hq).1
  refine idx_ok h h0 (by omega) fun a ha => ldA_ok (pk_size q.ip) (fun j hj => ?_) hk
  rw [Sp.add_add]
  have e : (pkF q.x (.slice q.p q.l q.c))[j]? = (qs.flatMap pqF)[i.toNat * 25 + j]? := by
    rw [flatGet pqF_len hq hj]
    simp [pkF, pqF]
  obtain ⟨u, hu⟩ : ∃ u, (qs.flatMap pqF)[i.toNat * 25 + j]? = some u := ⟨_, List.getElem?_eq_getElem (by rw [flatLen pqF_len]; omega)⟩
  rw [e, hu]
  exact h.get ha hu
section
variable {w₀ w : World} {F : HP}
theorem same_ok {p q : Option Addr} {l c d : Nat} {qs zs : List PQ} (h : Sat w₀ F w) (gp : Gives F 25 p l (qs.flatMap pqF)) (gq : Gives F 25 q l (zs.flatMap pqF)) (hp : PQs F qs) (hq : PQs F zs) (e : qs.map (·.x) = zs.map (·.x)) (hl : l ≤ 100000) :
    call Try.prog fn_tenonlaw23_same #[.slice p l c, .slice q l d] w fun v w' => v = .bool true ∧ Sat w₀ F w' := by
  apply tenonlaw23_same_call
  unfold tenonlaw23_same
  have ql : qs.length = l := by
    have := (gp _ _ h).1
    rw [flatLen pqF_len] at this
    omega
  have zl : zs.length = l := by
    have := congrArg List.length e
    rw [List.length_map, List.length_map] at this
    omega
  refine br_false (by simp) ⟨fun n w m => 0 ≤ n ∧ n ≤ l ∧ m = l - n.toNat ∧ Sat w₀ F w, ⟨_, by decide, by omega, rfl, h⟩, ?_⟩
  rintro u n w1 m ⟨n0, nl, rfl, h1⟩
  refine br_dec (fun hlt => ?_) (fun hge => ⟨rfl, h1⟩)
  have h1 := h1.drew
  obtain ⟨y, hy⟩ : ∃ y, qs[n.toNat]? = some y := ⟨_, List.getElem?_eq_getElem (by omega)⟩
  obtain ⟨z, hz⟩ : ∃ z, zs[n.toNat]? = some z := ⟨_, List.getElem?_eq_getElem (by omega)⟩
  have hyz : y.x = z.x := by
    have := congrArg (·[n.toNat]?) e
    simp only [List.getElem?_map, hy, hz, Option.map_some, Option.some.injEq] at this
    exact this
  obtain ⟨y1, y2⟩ := hp y (List.mem_of_getElem? hy)
  obtain ⟨z1, z2⟩ := hq z (List.mem_of_getElem? hz)
  refine pq_rd (gp _ _ h1) n0 hy <| pq_rd (gq _ _ h1) n0 hz <| call_mono (ref_Same_ok h1 y.ip z.ip y2 z2 (by omega)) ?_
  rintro _ w2 ⟨rfl, h2⟩
  exact asB_ok <| br_false (by simp [hyz]) <| arith_i64 (by omega) (by omega) ⟨_, by omega, by omega, by omega, rfl, h2⟩
/-- What is under way, as the program tells it, is the document's, as far as so many. -/
theorem rows_same {W : World} {n : Int} {b r : Nat} {M : NM} {X : RN} {most : Nat} {p p2 p3 : Option Addr} {c c2 c3 : Nat} {K Z : World → Prop} (hB : RB W n M X) (hm : most ≤ 1000)
    (h : Sat W (blk r (rA X.most p X.row.length c p2 X.sent.length c2 p3 X.came.length c3) T_tenonref23_Net * (pqT p X.row.length c X.row * (pqT p2 X.sent.length c2 X.sent * (pqT p3 X.came.length c3 X.came * (NetH b M * (F * old W)))))) w) {d : Nat} (hd : d = min most X.row.length)
    (hk : ∀ w', Sat W (blk r (rA X.most p X.row.length c p2 X.sent.length c2 p3 X.came.length c3) T_tenonref23_Net * (pqT p X.row.length c X.row * (pqT p2 X.sent.length c2 X.sent * (pqT p3 X.came.length c3 X.came * (NetH b M * (F * old W)))))) w' → K w') :
    call Try.prog fn_tenonlaw23_row #[.pointer (some ⟨b, 0, none⟩), .int .i64 most] w fun v31 w9 => asS v31 fun p32 l32 c32 => w9.cell? ((⟨r, 0, none⟩ : Addr).add 1) = some (.slice p X.row.length c) ∧
      call Try.prog fn_tenonlaw23_same #[.slice p32 l32 c32, .slice p d c] w9 fun v33 w10 => asB v33 fun b34 => br b34 (K w10) (Z w10) := by
  have hrl := hB.rl
  have hlen := hB.len
  refine call_mono (row_ok (most := most) (h.perm (B := NetH b M * (blk r (rA X.most p X.row.length c p2 X.sent.length c2 p3 X.came.length c3) T_tenonref23_Net * (pqT p X.row.length c X.row * (pqT p2 X.sent.length c2 X.sent * (pqT p3 X.came.length c3 X.came * (F * old W)))))) (by ac_rfl)) hB.ok hm) ?_
  rintro _ w1 ⟨qs, G, q, cq, rfl, hqs, hG, h1⟩
  have hql : qs.length = d := by
    have := congrArg List.length hqs
    rw [List.length_map, List.length_take] at this
    omega
  have h2 := h1.perm (B := blk r (rA X.most p X.row.length c p2 X.sent.length c2 p3 X.came.length c3) T_tenonref23_Net * (pqT q qs.length cq qs * (G * (NetH b M * (pqT p2 X.sent.length c2 X.sent * (pqT p3 X.came.length c3 X.came * (F * (pqT p X.row.length c X.row * old W)))))))) (by ac_rfl)
  refine asS_ok ⟨cell_blk h2 (i := 1) rfl, ?_⟩
  rw [hql] at h2 ⊢
  have g1 : Gives (blk r (rA X.most p X.row.length c p2 X.sent.length c2 p3 X.came.length c3) T_tenonref23_Net * (pqT q d cq qs * (G * (NetH b M * (pqT p2 X.sent.length c2 X.sent * (pqT p3 X.came.length c3 X.came * (F * (pqT p X.row.length c X.row * old W)))))))) 25 q d (qs.flatMap pqF) := Gives.right (Gives.left fun _ w hs => Sat.rd (t := T_api_Packet) (c := cq) hs)
  have g2 : Gives (blk r (rA X.most p X.row.length c p2 X.sent.length c2 p3 X.came.length c3) T_tenonref23_Net * (pqT q d cq qs * (G * (NetH b M * (pqT p2 X.sent.length c2 X.sent * (pqT p3 X.came.length c3 X.came * (F * (pqT p X.row.length c X.row * old W)))))))) 25 p d ((X.row.take d).flatMap pqF) :=
    Gives.right (Gives.right (Gives.right (Gives.right (Gives.right (Gives.right (Gives.right (Gives.left fun _ w hs => tab_front pqF_len (by decide) hs (by omega))))))))
  have e : qs.map (·.x) = (X.row.take d).map (·.x) := by
    rw [hqs, hB.row, List.map_take, hd]
    rcases Nat.le_total most X.row.length with h | h
    · rw [Nat.min_eq_left h]
    · rw [Nat.min_eq_right h, List.take_of_length_le (by rw [List.length_map]; omega), List.take_of_length_le (by rw [List.length_map]; omega)]
  refine call_mono (same_ok h2 g1 g2 (PQs.right fun z hz => ⟨(hG z hz).1, Gives.right (Gives.left (hG z hz).2)⟩) (fun z hz => ?_) e (by omega)) ?_
  · obtain ⟨z1, z2⟩ := hB.gr z (List.mem_of_mem_take hz)
    exact ⟨z1, Gives.right (Gives.right (Gives.right (Gives.right (Gives.right (Gives.right (Gives.right (Gives.right z2)))))))⟩
  · rintro _ w2 ⟨rfl, h3⟩
    exact asB_ok <| br_true rfl <| hk _ ((h3.perm (B := (pqT q d cq qs * G) * (blk r (rA X.most p X.row.length c p2 X.sent.length c2 p3 X.came.length c3) T_tenonref23_Net * (pqT p X.row.length c X.row * (pqT p2 X.sent.length c2 X.sent * (pqT p3 X.came.length c3 X.came * (NetH b M * (F * old W))))))) (by ac_rfl)).right)
def PL (W : World) (b r : Nat) (top n : Int) (w : World) (m : Nat) : Prop := 0 ≤ n ∧ n ≤ top ∧ m = (top - n).toNat ∧ ∃ M X, RB W n M X ∧ Sat W (NetH b M * (RNet r X * (emp * old W))) w
theorem NetPlays_walk {W : World} {most : Int} {p : Option Addr} {l c : Nat} {xs : List NAct} (hx : NActs W p l xs) (hl : l ≤ 9223372036854775807) :
    call Try.prog fn_tenonlaw23_NetPlays #[.int .i64 most, .slice p l c] W fun v w' => v = .bool true ∧ Below W.heap.size W w' := by
  apply tenonlaw23_NetPlays_call
  unfold tenonlaw23_NetPlays
  have done : ∀ {w : World} {A : HP}, Sat W (A * old W) w → call Try.prog fn_tenonlaw23_awake #[] w fun v w' => asB v fun b => (Value.bool b) = .bool true ∧ Below W.heap.size W w' := by
    intro w A h
    refine call_mono (tenonlaw23_awake_ok h) ?_
    rintro _ w4 ⟨rfl, h4⟩
    exact asB_ok ⟨rfl, h4.right.below'⟩
  refine call_mono (great_ok hx hl (Sat.start W)) ?_
  rintro _ w1 ⟨rfl, g, rfl, hg⟩
  refine asB_ok <| br_split (fun _ => done (A := emp) (Sat.start w1).with_emp) (fun hgf => ?_)
  have hg := hg hgf
  by_cases hm : most < 1 ∨ most > 65536
  · exact call_pure (net_New_no hm) ⟨_, _, rfl, call_pure (ref_New_no hm) <| asP_ok <| br_true rfl <| br_true rfl <| br_true rfl <| done (A := emp) (Sat.start w1).with_emp⟩
  have hm0 : 1 ≤ most := by omega
  have hm1 : most ≤ 65536 := by omega
  refine call_mono (net_New_ok (Sat.start w1) hm0 hm1) ?_
  rintro _ w3 ⟨b, rfl, h3⟩
  refine ⟨_, _, rfl, call_mono (ref_New_ok h3 hm0 hm1) ?_⟩
  rintro _ w4 ⟨r, rfl, h4⟩
  refine asP_ok <| br_false rfl ⟨fun w => ∃ n m, PL w1 b r 150 n w m, ⟨PL w1 b r 150, ⟨_, by decide, by decide, rfl, _, _, RB.start hm0 hm1, h4.with_emp.perm (by ac_rfl)⟩, ?_⟩, ?_⟩
  · rintro u n w6 m ⟨n0, n1, rfl, M, X, hB, h6⟩
    have out : ∃ n m, PL w1 b r 150 n w6 m := ⟨n, _, n0, n1, rfl, M, X, hB, h6⟩
    refine br_dec (fun hlt => br_dec (fun hlt2 => ?_) (fun _ => out)) (fun _ => out)
    have h6 := h6.drew
    refine hx.idx h6.right.right.right n0 hlt fun ad x hxi hA ld _ => ld <| call_mono (do_ok h6 hB n0 (by omega) hA (hg n.toNat x (by omega) hxi)) ?_
    rintro _ w7 ⟨rfl, M', X', hB', h7⟩
    obtain ⟨q, cq, p2, c2, p3, c3, h8⟩ := RNet.open_ (h7.perm (B := RNet r X' * (NetH b M' * (emp * old w1))) (by ac_rfl))
    refine asB_ok <| br_false rfl <| nn_ok <| ldS_ok (cell_blk h8 (i := 1) rfl) <| call_mono (net_Len_ok h7) ?_
    rintro _ w8 ⟨rfl, rfl⟩
    refine asI_ok ⟨cell_blk h8 (i := 1) rfl, br_false (by simp [hB'.len]) <| arith_i64 (by omega) (by omega) ⟨_, ?_, by omega, by omega, rfl, M', X', hB', h7⟩⟩
    omega
  · rintro u w9 ⟨n, m, n0, n1, rfl, M, X, hB, h9⟩
    have h9 := h9.drew
    obtain ⟨q, cq, p2, c2, p3, c3, h8⟩ := RNet.open_ (h9.perm (B := RNet r X * (NetH b M * (emp * old w1))) (by ac_rfl))
    have hlr := hB.lr
    refine br_true rfl <| nn_ok <| ldS_ok (cell_blk h8 (i := 1) rfl) <| rows_same (most := 999) hB (by decide) h8 (by omega) fun w11 h11 => ?_
    exact done (A := blk r (rA X.most q X.row.length cq p2 X.sent.length c2 p3 X.came.length c3) T_tenonref23_Net * (pqT q X.row.length cq X.row * (pqT p2 X.sent.length c2 X.sent * (pqT p3 X.came.length c3 X.came * (NetH b M * emp))))) (h11.perm (by ac_rfl))
theorem NetTells_walk {W : World} {stop : Int} {p : Option Addr} {l c : Nat} {xs : List NAct} (hx : NActs W p l xs) (hl : l ≤ 9223372036854775807) (hs : -9223372036854775808 ≤ stop ∧ stop ≤ 9223372036854775807) :
    call Try.prog fn_tenonlaw23_NetTells #[.slice p l c, .int .i64 stop] W fun v w' => v = .bool true ∧ Below W.heap.size W w' := by
  apply tenonlaw23_NetTells_call
  unfold tenonlaw23_NetTells
  have done : ∀ {w : World} {A : HP}, Sat W (A * old W) w → call Try.prog fn_tenonlaw23_awake #[] w fun v w' => asB v fun b => (Value.bool b) = .bool true ∧ Below W.heap.size W w' := by
    intro w A h
    refine call_mono (tenonlaw23_awake_ok h) ?_
    rintro _ w4 ⟨rfl, h4⟩
    exact asB_ok ⟨rfl, h4.right.below'⟩
  refine call_mono (great_ok hx hl (Sat.start W)) ?_
  rintro _ w1 ⟨rfl, g, rfl, hg⟩
  refine asB_ok <| br_split (fun _ => done (A := emp) (Sat.start w1).with_emp) (fun hgf => ?_)
  have hg := hg hgf
  refine call_mono (net_New_ok (most := 30) (Sat.start w1) (by decide) (by decide)) ?_
  rintro _ w3 ⟨b, rfl, h3⟩
  refine ⟨_, _, rfl, call_mono (ref_New_ok (most := 30) h3 (by decide) (by decide)) ?_⟩
  rintro _ w4 ⟨r, rfl, h4⟩
  refine asP_ok ⟨fun w => ∃ n m, PL w1 b r 60 n w m, ⟨PL w1 b r 60, ⟨_, by decide, by decide, rfl, _, _, RB.start (most := 30) (by decide) (by decide), h4.with_emp.perm (by ac_rfl)⟩, ?_⟩, ?_⟩
  · rintro u n w6 m ⟨n0, n1, rfl, M, X, hB, h6⟩
    have out : ∃ n m, PL w1 b r 60 n w6 m := ⟨n, _, n0, n1, rfl, M, X, hB, h6⟩
    refine br_dec (fun hlt => br_dec (fun hlt2 => ?_) (fun _ => out)) (fun _ => out)
    refine hx.idx h6.right.right.right n0 hlt fun ad x hxi hA ld _ => ld <| call_mono (do_ok h6 hB n0 (by omega) hA (hg n.toNat x (by omega) hxi)) ?_
    rintro _ w7 ⟨rfl, M', X', hB', h7⟩
    refine asB_ok <| arith_i64 (by omega) (by omega) ⟨_, ?_, by omega, by omega, rfl, M', X', hB', h7⟩
    omega
  · rintro u w7 ⟨n, m, n0, n1, rfl, M, X, hB, h7⟩
    obtain ⟨q, cq, p2, c2, p3, c3, h8⟩ := RNet.open_ (h7.perm (B := RNet r X * (NetH b M * (emp * old w1))) (by ac_rfl))
    have hlr := hB.lr
    have hk := pkI_range (i := stop) (n := X.row.length + 1) (by omega)
    have hpk := pick_at (i := stop) (n := X.row.length + 1) hs.1 hs.2 (by omega) (by omega)
    obtain ⟨k, hkk⟩ : ∃ k : Nat, pkI stop (X.row.length + 1) = (k : Int) := ⟨(pkI stop (X.row.length + 1)).toNat, by omega⟩
    rw [hkk] at hpk hk
    refine nn_ok <| ldS_ok (cell_blk h8 (i := 1) rfl) <| arith_i64 (by omega) (by omega) <| call_pure hpk <| asI_ok ?_
    have h9 := h8.drew
    refine nn_ok <| ldS_ok (cell_blk h9 (i := 1) rfl) <| slc_own (h9.right : Sat w1 (own T_api_Packet 25 q X.row.length cq (X.row.flatMap pqF) * _) _) (by omega) (by omega) ?_
    rw [Int.toNat_natCast]
    refine rows_same hB (by omega) h9 (by omega) fun w11 h11 => ?_
    refine nn_ok <| ldS_ok (cell_blk h11 (i := 1) rfl) <| rows_same (most := 99) hB (by decide) h11 (by omega) fun w12 h12 => ?_
    exact done (A := blk r (rA X.most q X.row.length cq p2 X.sent.length c2 p3 X.came.length c3) T_tenonref23_Net * (pqT q X.row.length cq X.row * (pqT p2 X.sent.length c2 X.sent * (pqT p3 X.came.length c3 X.came * (NetH b M * emp))))) (h12.perm (by ac_rfl))
theorem NetPlays_row {W : World} {most : Int} {v : Value} (h0 : -9223372036854775808 ≤ most ∧ most ≤ 9223372036854775807) (h : ∃ p l c xs, v = .slice p l c ∧ l ≤ 9223372036854775807 ∧ NActs W p l xs) : call Try.prog fn_tenonlaw23_NetPlays #[.int .i64 most, v] W fun v w' => v = .bool true ∧ Below W.heap.size W w' := by
  obtain ⟨p, l, c, xs, rfl, hl, hx⟩ := h
  exact NetPlays_walk hx hl
theorem NetTells_row {W : World} {stop : Int} {v : Value} (h : ∃ p l c xs, v = .slice p l c ∧ l ≤ 9223372036854775807 ∧ NActs W p l xs) (h0 : -9223372036854775808 ≤ stop ∧ stop ≤ 9223372036854775807) : call Try.prog fn_tenonlaw23_NetTells #[v, .int .i64 stop] W fun v w' => v = .bool true ∧ Below W.heap.size W w' := by
  obtain ⟨p, l, c, xs, rfl, hl, hx⟩ := h
  exact NetTells_walk hx hl h0
end
end Go.Proofs.Ytjjnbcdcppnllaa
