/- NetLost: the walk. No conditions. -/
import Derived.Test.YtjjnbcdcppnllaaN5
set_option linter.unusedVariables false
set_option linter.unusedSimpArgs false
set_option maxRecDepth 100000
namespace Go.Proofs.Ytjjnbcdcppnllaa
open Go.Sp Go.RowKit

theorem acN_pk {x : NAct} (h : x.x.ip.length = 16) : (acN x).extract 2 (2 + 25) = pkF x.x (.slice x.p x.l x.c) := by
  apply Array.ext'
  rw [Array.toList_extract, List.extract_eq_take_drop]
  show ((Value.int .i64 x.kd :: .int .i64 x.i :: pkL x.x (.slice x.p x.l x.c)).drop 2).take 25 = pkL x.x (.slice x.p x.l x.c)
  rw [List.drop_succ_cons, List.drop_succ_cons, List.drop_zero]
  exact List.take_of_length_le (by rw [pk_len h]; exact Nat.le_refl _)
def LI (W : World) (b : Nat) (a c f n : Int) (w : World) (m : Nat) : Prop :=
  ∃ M, 0 ≤ n ∧ n ≤ 150 ∧ m = (150 - n).toNat ∧ NOk M n ∧ a - c = M.row.length ∧ 0 ≤ f ∧ f ≤ c ∧ c ≤ a ∧ a ≤ n ∧ Sat W (NetH b M * old W) w
theorem NetLost_walk {W : World} {p : Option Addr} {l c : Nat} {xs : List NAct} (hx : NActs W p l xs) (hl : l ≤ 9223372036854775807) :
    call Try.prog fn_tenonlaw23_NetLost #[.slice p l c] W fun v w' => v = .bool true ∧ Below W.heap.size W w' := by
  apply tenonlaw23_NetLost_call
  unfold tenonlaw23_NetLost
  have done : ∀ {w : World} {A : HP}, Sat W (A * old W) w → call Try.prog fn_tenonlaw23_awake #[] w fun v w' => asB v fun b => (Value.bool b) = .bool true ∧ Below W.heap.size W w' := by
    intro w A h
    refine call_mono (tenonlaw23_awake_ok h) ?_
    rintro _ w4 ⟨rfl, h4⟩
    exact asB_ok ⟨rfl, h4.right.below'⟩
  refine call_mono (great_ok hx hl (Sat.start W)) ?_
  rintro _ w1 ⟨rfl, g, rfl, hg⟩
  refine asB_ok <| br_split (fun _ => done (A := emp) (Sat.start w1).with_emp) (fun hgf => ?_)
  have hg := hg hgf
  refine call_mono (net_New_ok (most := 400) (Sat.start w1) (by decide) (by decide)) ?_
  rintro _ w3 ⟨b, rfl, h3⟩
  refine ⟨_, _, rfl, br_false rfl ⟨LI w1 b, ⟨_, ⟨400, [], fun _ => none, fun _ => none⟩, by decide, by decide, rfl, ⟨by decide, by decide, by decide, (fun x hx => by cases hx), (fun r k h => by cases h)⟩, rfl, by decide, by decide, by decide, by decide, h3⟩, ?_⟩⟩
  rintro u a o f n w4 m ⟨M, n0, n150, rfl, hM, hao, f0, fo, oa, an, h4⟩
  refine br_dec (fun hlt => br_dec (fun hlt2 => ?_) (fun _ => done h4)) (fun _ => done h4)
  have tail : ∀ {w : World} {M' : NM} {X : HP} {a' o' f' : Int}, NOk M' (n + 1) → a' - o' = M'.row.length → 0 ≤ f' → f' ≤ o' → o' ≤ a' → a' ≤ n + 1 → Sat w1 (NetH b M' * (X * old w1)) w →
      call Try.prog fn_net_Net_Len #[.pointer (some ⟨b, 0, none⟩)] w fun v27 w9 => asI .i64 v27 fun n28 => arith .i64 (a' - o') fun n29 => br ((n28 : Int) != n29) ((fun v w' => v = Value.bool true ∧ Below w1.heap.size w1 w') (.bool false) w9) (br (decide ((f' : Int) > o')) ((fun v w' => v = Value.bool true ∧ Below w1.heap.size w1 w') (.bool false) w9) (arith .i64 (n + 1) fun n30 => ∃ m31, m31 < (150 - n).toNat ∧ LI w1 b a' o' f' n30 w9 m31)) := by
    intro w M' X a' o' f' hM' e q1 q2 q3 q4 h
    refine call_mono (net_Len_ok h) ?_
    rintro _ w9 ⟨rfl, rfl⟩
    exact asI_ok <| arith_i64 (by omega) (by omega) <| br_false (by simp [e]) <| br_false (by simp; omega) <| arith_i64 (by omega) (by omega) ⟨(150 - (n + 1)).toNat, by omega, M', by omega, by omega, rfl, hM', e, q1, q2, q3, q4, (h.perm (B := X * (NetH b M' * old w1)) (by ac_rfl)).right⟩
  refine hx.idx h4.right n0 hlt fun ad x hxi hA ld _ => ld <| new_ok h4 fun k18 w5 h5 => stA_ok h5 rfl (acN_size hA.pin.ip) (acN_one x) fun w6 h6 => ?_
  have h6 : Sat w1 (blk k18 (acN x) 37 * (NetH b M * old w1)) w6 := h6
  have hxl := hg n.toNat x (by omega) hxi
  obtain ⟨k, hk, _, _, _⟩ := tenonref01_Pick_ok x.kd 4 hA.rk.1 hA.rk.2 (by omega) (by omega)
  have hn := h6.perm (B := NetH b M * (blk k18 (acN x) 37 * old w1)) (by ac_rfl)
  refine ldI_ok (n := x.kd) (cell_blk h6 (i := 0) rfl) <| call_pure hk <| asI_ok <| br_split (fun _ => ?_) (fun _ => br_split (fun _ => ?_) (fun _ => br_split (fun _ => ?_) (fun _ => ?_)))
  -- sent
  · refine ldA_blk (o := 2) (n := 25) h6 (by rw [acN_size hA.pin.ip]; decide) ?_
    rw [acN_pk hA.pin.ip]
    refine call_mono (net_Send_ok hn hM (by omega) hA.pin (Gives.right (Gives.old hA.rd)) (by omega)) ?_
    obtain ⟨q1, _, q3⟩ := hM.send hA.pin n0 (by omega)
    rintro _ w8 ⟨rfl, h8⟩
    generalize sendM M x.x = z at q1 q3 h8 ⊢
    refine ⟨_, _, rfl, br_split (fun he => ?_) (fun he => ?_)⟩
    · have he : z.2.2 = 0 := by simpa using he
      rcases q3 with ⟨_, q3⟩ | ⟨q3, _⟩
      · exact arith_i64 (by omega) (by omega) <| tail q1 (by omega) f0 fo (by omega) (by omega) h8
      · exact absurd he q3
    · have he : z.2.2 ≠ 0 := by simpa using he
      rcases q3 with ⟨q3, _⟩ | ⟨_, q3⟩
      · exact absurd q3 he
      · exact tail q1 (by omega) f0 fo oa (by omega) h8
  -- doubled
  · refine ldI_ok (n := x.i) (cell_blk h6 (i := 1) rfl) <| call_mono (net_Double_ok (i := x.i) hn hM) ?_
    obtain ⟨q1, _, q3⟩ := hM.dbl (i := x.i)
    rintro _ w8 ⟨rfl, h8⟩
    generalize dblM M x.i = z at q1 q3 h8 ⊢
    refine asI_ok <| br_split (fun he => ?_) (fun he => ?_)
    · have he : z.2 = 0 := by simpa using he
      rcases q3 with ⟨_, q3⟩ | ⟨q3, _⟩
      · exact arith_i64 (by omega) (by omega) <| tail (q1.mono (by omega)) (by omega) f0 fo (by omega) (by omega) h8
      · exact absurd he q3
    · have he : z.2 ≠ 0 := by simpa using he
      rcases q3 with ⟨q3, _⟩ | ⟨_, q3⟩
      · exact absurd q3 he
      · exact tail (q1.mono (by omega)) (by omega) f0 fo oa (by omega) h8
  -- lost
  · refine ldI_ok (n := x.i) (cell_blk h6 (i := 1) rfl) <| call_mono (net_Lose_ok (i := x.i) hn hM) ?_
    obtain ⟨q1, q2⟩ := hM.lose (i := x.i)
    obtain ⟨_, q3⟩ := hM.lose_len (i := x.i)
    rintro _ w8 ⟨q, m, d, G, rfl, _, _, h8⟩
    generalize loseM M x.i = z at q1 q2 q3 h8 ⊢
    refine ⟨_, _, rfl, new_ok h8 fun k55 w9 h9 => stPk h9 (pk_size (x := pk0) (v := .slice none 0 0) rfl) q2.ip fun w10 h10 => ?_⟩
    have h11 := h10.perm (B := NetH b z.1 * ((blk k55 (pkF z.2.1 (.slice q m d)) 35 * (G * blk k18 (acN x) 37)) * old w1)) (by
      show blk k55 (pkF z.2.1 (.slice q m d)) 35 * (G * (NetH b z.1 * (blk k18 (acN x) 37 * old w1))) = _
      ac_rfl)
    refine br_split (fun he => ?_) (fun he => ?_)
    · have he : z.2.2 = 0 := by simpa using he
      rcases q3 with ⟨_, q3⟩ | ⟨q3, _⟩
      · exact arith_i64 (by omega) (by omega) <| tail (q1.mono (by omega)) (by omega) f0 (by omega) (by omega) (by omega) h11
      · exact absurd he q3
    · have he : z.2.2 ≠ 0 := by simpa using he
      rcases q3 with ⟨q3, _⟩ | ⟨_, q3⟩
      · exact absurd q3 he
      · exact tail (q1.mono (by omega)) (by omega) f0 fo oa (by omega) h11
  -- delivered
  · refine ldI_ok (n := x.i) (cell_blk h6 (i := 1) rfl) <| call_mono (net_Deliver_ok (i := x.i) hn hM) ?_
    obtain ⟨q1, q2, _, q3⟩ := hM.del (i := x.i)
    rintro _ w8 ⟨q, m, d, G, rfl, _, _, h8⟩
    generalize delM' M x.i = z at q1 q2 q3 h8 ⊢
    refine ⟨_, _, _, rfl, new_ok h8 fun k55 w9 h9 => stPk h9 (pk_size (x := pk0) (v := .slice none 0 0) rfl) q2.ip fun w10 h10 => ?_⟩
    have h11 := h10.perm (B := NetH b z.1 * ((blk k55 (pkF z.2.1 (.slice q m d)) 35 * (G * blk k18 (acN x) 37)) * old w1)) (by
      show blk k55 (pkF z.2.1 (.slice q m d)) 35 * (G * (NetH b z.1 * (blk k18 (acN x) 37 * old w1))) = _
      ac_rfl)
    refine br_split (fun he => ?_) (fun he => ?_)
    · have he : z.2.2.2 = 0 := by simpa using he
      rcases q3 with ⟨_, q3⟩ | ⟨q3, _⟩
      · refine arith_i64 (by omega) (by omega) <| br_split (fun _ => ?_) (fun _ => ?_)
        · exact arith_i64 (by omega) (by omega) <| tail (q1.mono (by omega)) (by omega) (by omega) (by omega) (by omega) (by omega) h11
        · exact tail (q1.mono (by omega)) (by omega) f0 (by omega) (by omega) (by omega) h11
      · exact absurd he q3
    · have he : z.2.2.2 ≠ 0 := by simpa using he
      rcases q3 with ⟨q3, _⟩ | ⟨_, q3, _⟩
      · exact absurd q3 he
      · exact tail (q1.mono (by omega)) (by omega) f0 fo oa (by omega) h11
theorem NetLost_row {W : World} {v : Value} (h : ∃ p l c xs, v = .slice p l c ∧ l ≤ 9223372036854775807 ∧ NActs W p l xs) : call Try.prog fn_tenonlaw23_NetLost #[v] W fun v w' => v = .bool true ∧ Below W.heap.size W w' := by
  obtain ⟨p, l, c, xs, rfl, hl, hx⟩ := h
  exact NetLost_walk hx hl
end Go.Proofs.Ytjjnbcdcppnllaa
