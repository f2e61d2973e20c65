/- PacketEncodes, PacketSame, PacketBack: the walks. No conditions. -/
import Derived.Test.YtkkfhceejhabeaaP9
set_option linter.unusedVariables false
set_option linter.unusedSimpArgs false
set_option linter.unusedSectionVars false
set_option maxRecDepth 100000
namespace Go.Proofs.Ytkkfhceejhabeaa
open Go.Sp Go.RowKit

theorem awake_done {W w : World} {F : HP} (h : Sat W (F * old W) w) : call Try.prog fn_tenonlaw08_awake #[] w fun v w' => asB v fun b => (Value.bool b) = .bool true ∧ Below W.heap.size W w' := by
  refine call_mono (tenonlaw08_awake_ok h) ?_
  rintro _ w2 ⟨rfl, h2⟩
  exact asB_ok ⟨rfl, (h2.right).below'⟩
theorem PacketEncodes_walk {W : World} {x : PK} {p : Option Addr} {l c : Nat} (hx : PIn x) (hrd : Rd W 36 p l (x.rs.flatMap orC)) :
    call Try.prog fn_tenonlaw08_PacketEncodes #[.agg (pkF x (.slice p l c))] W fun v w' => v = .bool true ∧ Below W.heap.size W w' := by
  apply tenonlaw08_PacketEncodes_call
  unfold tenonlaw08_PacketEncodes
  refine new_ok (Sat.start W) fun k1 w1 h1 => ?_
  have h1 : Sat W (blk k1 (pkF x (.slice p l c)) T_api_Packet * old W) w1 := h1
  refine ldS_ok (tlC h1 hx.ip 3 rfl) <| br_dec (fun _ => awake_done h1) (fun h10 => ?_)
  have gO : Gives (old W) 36 p l (x.rs.flatMap orC) := Gives.old hrd
  have g1 : Gives (blk k1 (pkF x (.slice p l c)) T_api_Packet * old W) 36 p l (x.rs.flatMap orC) := Gives.right gO
  have g2 : ∀ A, Gives (A * (blk k1 (pkF x (.slice p l c)) T_api_Packet * old W)) 36 p l (x.rs.flatMap orC) := fun A => Gives.right g1
  by_cases hr : RightP x
  · refine ldPk h1 hx.ip <| call_mono (packet_Encode_ok h1 hx hr g1 (by omega)) ?_
    rintro _ w3 ⟨q, d, rfl, h3⟩
    refine ⟨_, _, _, _, rfl, ldPk h3.right hx.ip <| call_mono (ref_Right_ok h3 hx (g2 _)) ?_⟩
    rintro _ w4 ⟨rfl, h4⟩
    refine asB_ok <| br_false (by simp [hr]) <| br_true rfl <| ldPk h4.right hx.ip <| call_mono (packet_Check_ok h4 hx (g2 _) (by omega)) ?_
    rintro _ w7 ⟨rfl, h7⟩
    rw [if_pos hr]
    refine asI_ok <| br_true rfl <| ldPk h7.right hx.ip <| call_mono (refP_Encode_ok h7 hx hr (g2 _)) ?_
    rintro _ w8 ⟨q8, d8, rfl, h8⟩
    have hlen := encP_len hx hr
    refine asS_ok <| call_reads (tenonref01_SameBytes_ok (xs := encP x) (ys := encP x) h8.right.left.rd h8.left.rd (by omega)) fun w9 hw => asB_ok <| br_true (by simp) ?_
    exact awake_done ((h8.same hw).perm (B := (own T_uint8 1 q8 (encP x).length d8 (by8 (encP x)) * (own T_uint8 1 q (encP x).length d (by8 (encP x)) * blk k1 (pkF x (.slice p l c)) T_api_Packet)) * old W) (by ac_rfl))
  · refine ldPk h1 hx.ip <| call_mono (packet_Encode_no h1 hx hr g1 (by omega)) ?_
    rintro _ w3 ⟨rfl, h3⟩
    refine ⟨_, _, _, _, rfl, ldPk h3 hx.ip <| call_mono (ref_Right_ok h3 hx g1) ?_⟩
    rintro _ w4 ⟨rfl, h4⟩
    refine asB_ok <| br_true (by simp [hr]) <| br_true rfl <| ldPk h4 hx.ip <| call_mono (packet_Check_ok h4 hx g1 (by omega)) ?_
    rintro _ w7 ⟨rfl, h7⟩
    rw [if_neg hr]
    exact asI_ok <| br_true rfl <| br_true rfl <| awake_done h7
theorem PacketEncodes_row {W : World} {v : Value} (h : PArg W v) : call Try.prog fn_tenonlaw08_PacketEncodes #[v] W fun v w' => v = .bool true ∧ Below W.heap.size W w' := by
  obtain ⟨x, p, l, c, rfl, hx, hrd, hl⟩ := h
  exact PacketEncodes_walk hx hrd

/-- A packet's form, or none. -/
theorem packet_Encode_any {w₀ w : World} {F : HP} {x : PK} {p : Option Addr} {l c : Nat} (h : Sat w₀ F w) (hx : PIn x) (gx : Gives F 36 p l (x.rs.flatMap orC)) (hl : l ≤ 4611686018427387904) :
    call Try.prog fn_packet_Encode #[.agg (pkF x (.slice p l c))] w fun v w' => ∃ q m d e G, v = .tuple #[.slice q m d, .int .i64 e] ∧ Sat w₀ (G * F) w' ∧ ((RightP x ∧ e = 0 ∧ m = (encP x).length ∧ Gives G 1 q m (by8 (encP x))) ∨ (¬ RightP x ∧ e = 5)) := by
  by_cases hr : RightP x
  · refine call_mono (packet_Encode_ok h hx hr gx hl) ?_
    rintro _ w' ⟨q, d, rfl, h'⟩
    exact ⟨q, _, d, 0, _, rfl, h', .inl ⟨hr, rfl, rfl, Gives.own⟩⟩
  · refine call_mono (packet_Encode_no h hx hr gx hl) ?_
    rintro _ w' ⟨rfl, h'⟩
    exact ⟨none, 0, 0, 5, emp, rfl, h'.with_emp, .inr ⟨hr, rfl⟩⟩
theorem PacketSame_walk {W : World} {x y : PK} {p q : Option Addr} {l c m d : Nat} (hx : PIn x) (hrd : Rd W 36 p l (x.rs.flatMap orC)) (hy : PIn y) (hrd2 : Rd W 36 q m (y.rs.flatMap orC)) :
    call Try.prog fn_tenonlaw08_PacketSame #[.agg (pkF x (.slice p l c)), .agg (pkF y (.slice q m d))] W fun v w' => v = .bool true ∧ Below W.heap.size W w' := by
  apply tenonlaw08_PacketSame_call
  unfold tenonlaw08_PacketSame
  refine new_ok (Sat.start W) fun k1 w1 h1 => new_ok h1 fun k2 w2 h2 => ?_
  have h2 : Sat W (blk k2 (pkF y (.slice q m d)) T_api_Packet * (blk k1 (pkF x (.slice p l c)) T_api_Packet * old W)) w2 := h2
  have dn : ∀ {w}, Sat W (blk k2 (pkF y (.slice q m d)) T_api_Packet * (blk k1 (pkF x (.slice p l c)) T_api_Packet * old W)) w → call Try.prog fn_tenonlaw08_awake #[] w fun v w' => asB v fun b => (Value.bool b) = .bool true ∧ Below W.heap.size W w' := fun h => awake_done h.right
  refine ldS_ok (tlC h2.right hx.ip 3 rfl) <| br_dec (fun _ => dn h2) (fun hl => ldS_ok (tlC h2 hy.ip 3 rfl) <| br_dec (fun _ => dn h2) (fun hm => ?_))
  have gx : Gives (blk k2 (pkF y (.slice q m d)) T_api_Packet * (blk k1 (pkF x (.slice p l c)) T_api_Packet * old W)) 36 p l (x.rs.flatMap orC) := Gives.right (Gives.right (Gives.old hrd))
  have gy : Gives (blk k2 (pkF y (.slice q m d)) T_api_Packet * (blk k1 (pkF x (.slice p l c)) T_api_Packet * old W)) 36 q m (y.rs.flatMap orC) := Gives.right (Gives.right (Gives.old hrd2))
  refine ldPk h2.right hx.ip <| ldPk h2 hy.ip <| call_mono (packet_Same_ok h2 hx.ip hy.ip gx gy (by omega)) ?_
  rintro _ w5 ⟨rfl, h5⟩
  refine asB_ok <| ldPk h5.right hx.ip <| ldPk h5 hy.ip <| call_mono (ref_Same_ok h5 hx.ip hy.ip gx gy (by omega)) ?_
  rintro _ w6 ⟨rfl, h6⟩
  refine asB_ok <| br_false (by simp) <| ldPk h6.right hx.ip <| ldPk h6.right hx.ip <| call_mono (packet_Same_ok h6 hx.ip hx.ip gx gx (by omega)) ?_
  rintro _ w7 ⟨rfl, h7⟩
  refine asB_ok <| br_false (by simp) <| ldPk h7.right hx.ip <| call_mono (packet_Encode_any h7 hx gx (by omega)) ?_
  rintro _ w8 ⟨q1, m1, d1, e1, G1, rfl, h8, c1⟩
  refine ⟨_, _, _, _, rfl, ldPk h8.right hy.ip <| call_mono (packet_Encode_any h8 hy (Gives.right gy) (by omega)) ?_⟩
  rintro _ w9 ⟨q2, m2, d2, e2, G2, rfl, h9, c2⟩
  have h10 : Sat W ((G2 * (G1 * (blk k2 (pkF y (.slice q m d)) T_api_Packet * blk k1 (pkF x (.slice p l c)) T_api_Packet))) * old W) w9 := h9.perm (by ac_rfl)
  refine ⟨_, _, _, _, rfl, ?_⟩
  rcases c1 with ⟨r1, rfl, rfl, g1⟩ | ⟨_, rfl⟩
  · refine br_false rfl ?_
    rcases c2 with ⟨r2, rfl, rfl, g2⟩ | ⟨_, rfl⟩
    · have hlen := encP_len hx r1
      refine br_false rfl <| call_reads (tenonref01_SameBytes_ok (g1 _ _ h9.right.left) (g2 _ _ h9.left) (by omega)) fun w12 hw => asB_ok <| br_true ?_ (awake_done (h10.same hw))
      have : x = y ↔ encP x = encP y := ⟨fun h => by rw [h], fun h => encP_inj hx r1 hy r2 h⟩
      simp [this]
    · exact br_true rfl (awake_done h10)
  · exact br_true rfl (awake_done h10)
theorem PacketSame_row {W : World} {v v' : Value} (h : PArg W v) (h' : PArg W v') : call Try.prog fn_tenonlaw08_PacketSame #[v, v'] W fun v w' => v = .bool true ∧ Below W.heap.size W w' := by
  obtain ⟨x, p, l, c, rfl, hx, hrd, hl⟩ := h
  obtain ⟨y, q, m, d, rfl, hy, hrd2, hm⟩ := h'
  exact PacketSame_walk hx hrd hy hrd2

theorem tenonref01_Copy_ok {w₀ w : World} {F : HP} {p : Option Addr} {l c : Nat} {bs : List Int} (h : Sat w₀ F w) (gx : Gives F 1 p l (by8 bs)) (hl : l ≤ 90000) :
    call Try.prog fn_tenonref01_Copy #[.slice p l c] w fun v w' => ∃ q d, v = .slice q bs.length d ∧ Sat w₀ (own T_uint8 1 q bs.length d (by8 bs) * F) w' := by
  apply tenonref01_Copy_call
  unfold tenonref01_Copy
  have hlen := (gx _ _ h).len8
  refine ⟨fun p4 l4 c4 n w m => 0 ≤ n ∧ n ≤ l ∧ m = l - n.toNat ∧ l4 = (bs.take n.toNat).length ∧ Sat w₀ (own T_uint8 1 p4 (bs.take n.toNat).length c4 (by8 (bs.take n.toNat)) * F) w, ⟨_, by omega, by omega, rfl, rfl, h.own_nil T_uint8 1⟩, ?_⟩
  rintro u p4 _ c4 n w1 m ⟨h0, hn, rfl, rfl, h1⟩
  refine br_dec (fun hlt => ?_) (fun hge => ?_)
  · have hi : n.toNat < bs.length := by omega
    have hb : bs[n.toNat]? = some bs[n.toNat] := by simp [hi]
    refine idx8 (gx _ _ h1.right) h0 hlt (Same.refl _) fun a y hya hca => ldI_ok hca ?_
    rw [hb] at hya
    cases hya
    refine new_ok h1 fun k9 w2 h2 => ?_
    have r : Rd w2 1 (some ⟨k9, 0, none⟩) 1 (by8 [bs[n.toNat]]) := Sat.rd_ob (sz := 1) (l := 1) h2.left rfl
    refine ra h2.p1 rfl r (by rw [List.length_take]; omega) fun q' d' w3 h3 => arith_i64 (by omega) (by omega) ⟨_, by omega, by omega, by omega, rfl, ?_, ?_⟩
    · rw [show (n + 1).toNat = n.toNat + 1 by omega, List.take_add_one, hb]; rfl
    · rw [show (n + 1).toNat = n.toNat + 1 by omega, List.take_add_one, hb]
      exact h3.p1.right
  · rw [List.take_of_length_le (by omega)] at h1 ⊢
    exact ⟨p4, c4, rfl, h1⟩
theorem PacketBack_walk {W : World} {x : PK} {p : Option Addr} {l c : Nat} {cut more : Int} (hx : PIn x) (hrd : Rd W 36 p l (x.rs.flatMap orC)) (hcut : -9223372036854775808 ≤ cut ∧ cut ≤ 9223372036854775807) (hmore : 0 ≤ more ∧ more ≤ 255) :
    call Try.prog fn_tenonlaw08_PacketBack #[.agg (pkF x (.slice p l c)), .int .i64 cut, .int .u8 more] W fun v w' => v = .bool true ∧ Below W.heap.size W w' := by
  apply tenonlaw08_PacketBack_call
  unfold tenonlaw08_PacketBack
  refine new_ok (Sat.start W) fun k1 w1 h1 => ?_
  have h1 : Sat W (blk k1 (pkF x (.slice p l c)) T_api_Packet * old W) w1 := h1
  refine ldS_ok (tlC h1 hx.ip 3 rfl) <| br_dec (fun _ => awake_done h1) (fun h10 => ?_)
  have g1 : Gives (blk k1 (pkF x (.slice p l c)) T_api_Packet * old W) 36 p l (x.rs.flatMap orC) := Gives.right (Gives.old hrd)
  by_cases hr : RightP x
  · refine ldPk h1 hx.ip <| call_mono (packet_Encode_ok h1 hx hr g1 (by omega)) ?_
    rintro _ w3 ⟨q, d, rfl, h3⟩
    have hlen := encP_len hx hr
    have h16 := encP_16 hr
    have hby := encP_by hx hr
    have hcap := h3.left.own_cap
    refine ⟨_, _, _, _, rfl, br_false rfl <| call_mono (packet_Decode_ok h3 (Gives.left Gives.own) hcap (by omega) hby) ?_⟩
    rintro _ w6 ⟨y, q6, m6, d6, e6, G6, rfl, hy, hm6, gG6, h6, hres⟩
    have hye : y = x ∧ e6 = 0 := by
      rcases hres with ⟨he, _, hu⟩ | ⟨_, _, hno⟩
      · exact ⟨(hu _ ⟨hx, hr, rfl⟩).symm, he⟩
      · exact (hno _ ⟨hx, hr, rfl⟩).elim
    obtain ⟨rfl, rfl⟩ := hye
    refine ⟨_, _, rfl, new_ok h6 fun k17 w7 h7 => stA_ok h7 rfl (pk_size hx.ip) pk_one fun w8 h8 => br_false rfl ?_⟩
    have h8 : Sat W (blk k17 (pkF y (.slice q6 m6 d6)) T_api_Packet * (G6 * (own T_uint8 1 q (encP y).length d (by8 (encP y)) * (blk k1 (pkF y (.slice p l c)) T_api_Packet * old W)))) w8 := h8
    refine ldPk h8.right.right.right hx.ip <| ldPk h8 hx.ip <| call_mono (ref_Same_ok h8 hx.ip hx.ip (Gives.right (Gives.right (Gives.right g1))) (Gives.right (Gives.left gG6)) (by omega)) ?_
    rintro _ w9 ⟨rfl, h9⟩
    obtain ⟨k, hpk, hk0, hk1, _⟩ := tenonref01_Pick_ok cut (encP y).length hcut.1 hcut.2 (by omega) (by omega)
    have hk1 := hk1 (by omega)
    refine asB_ok <| br_false (by simp) <| call_pure hpk <| asI_ok <| slc_ok (by omega) (by omega) (by omega) ?_
    have gO : ∀ {A B : HP}, Gives (A * (B * (own T_uint8 1 q (encP y).length d (by8 (encP y)) * (blk k1 (pkF y (.slice p l c)) T_api_Packet * old W)))) 1 q (encP y).length (by8 (encP y)) := Gives.right (Gives.right (Gives.left Gives.own))
    have gs := Gives.sub8 (gO (A := blk k17 (pkF y (.slice q6 m6 d6)) T_api_Packet) (B := G6)) (lo := 0) (hi := k.toNat) (c := d) (by omega) (by omega) (by omega)
    refine call_mono (packet_Decode_ok (bs := ((encP y).drop 0).take (k.toNat - 0)) h9 gs (by omega) (by omega) (fun b hb => hby b (List.mem_of_mem_drop (List.mem_of_mem_take hb)))) ?_
    rintro _ w11 ⟨y2, q11, m11, d11, e11, G11, rfl, hy2, hm11, gG11, h11, hres2⟩
    have he11 : e11 = 5 := by
      rcases hres2 with ⟨_, hF, _⟩ | ⟨he, _⟩
      · have e : encP y = encP y2 ++ (encP y).drop k.toNat := by
          rw [hF.enc, List.drop_zero, Nat.sub_zero, List.take_append_drop]
        have := encP_end hx hr hF.pin hF.right e
        have := congrArg List.length this
        rw [List.length_drop, List.length_nil] at this
        omega
      · exact he
    subst he11
    refine ⟨_, _, rfl, new_ok h11 fun k28 w12 h12 => stA_ok h12 rfl (pk_size hy2.ip) pk_one fun w13 h13 => ?_⟩
    have h14 := h13.perm (B := own T_uint8 1 q (encP y).length d (by8 (encP y)) * ((blk k28 (pkF y2 (.slice q11 m11 d11)) T_api_Packet * (G11 * (blk k17 (pkF y (.slice q6 m6 d6)) T_api_Packet * (G6 * blk k1 (pkF y (.slice p l c)) T_api_Packet)))) * old W)) (by
      show blk k28 (pkF y2 (.slice q11 m11 d11)) T_api_Packet * _ = _
      ac_rfl)
    refine call_mono (tenonref01_Copy_ok h14 (Gives.left Gives.own) (by omega)) ?_
    rintro _ w14 ⟨q14, d14, rfl, h15⟩
    refine asS_ok <| new_ok h15 fun k31 w15 h16' => ?_
    have r : Rd w15 1 (some ⟨k31, 0, none⟩) 1 (by8 [more]) := Sat.rd_ob (sz := 1) (l := 1) h16'.left rfl
    refine ra h16'.p1 rfl r (by omega) fun q16 d16 w16 h17 => ?_
    have hcap2 := h17.left.own_cap
    have hby2 : ∀ b ∈ encP y ++ [more], 0 ≤ b ∧ b ≤ 255 := fun b hb => by
      rcases List.mem_append.1 hb with hb | hb
      · exact hby b hb
      · simp at hb; subst hb; exact hmore
    refine call_mono (packet_Decode_ok h17 (Gives.left Gives.own) hcap2 (by rw [List.length_append]; simp; omega) hby2) ?_
    rintro _ w17 ⟨y3, q17, m17, d17, e17, G17, rfl, hy3, hm17, gG17, h18, hres3⟩
    have he17 : e17 = 5 := by
      rcases hres3 with ⟨_, hF, _⟩ | ⟨he, _⟩
      · have := encP_end hF.pin hF.right hx hr hF.enc
        cases this
      · exact he
    subst he17
    refine ⟨_, _, rfl, new_ok h18 fun k36 w18 h19 => stA_ok h19 rfl (pk_size hy3.ip) pk_one fun w19 h20 => br_true rfl <| br_true rfl ?_⟩
    exact awake_done (h20.right.right.right.right.right.right.with_emp)
  · refine ldPk h1 hx.ip <| call_mono (packet_Encode_no h1 hx hr g1 (by omega)) ?_
    rintro _ w3 ⟨rfl, h3⟩
    refine ⟨_, _, _, _, rfl, br_true rfl <| ldPk h3 hx.ip <| call_mono (packet_Check_ok h3 hx g1 (by omega)) ?_⟩
    rintro _ w4 ⟨rfl, h4⟩
    rw [if_neg hr]
    exact asI_ok <| br_true rfl <| awake_done h4
theorem PacketBack_row {W : World} {v : Value} {cut more : Int} (h : PArg W v) (hc : IntKind.i64.min ≤ cut ∧ cut ≤ IntKind.i64.max) (hm : IntKind.u8.min ≤ more ∧ more ≤ IntKind.u8.max) : call Try.prog fn_tenonlaw08_PacketBack #[v, .int .i64 cut, .int .u8 more] W fun v w' => v = .bool true ∧ Below W.heap.size W w' := by
  simp [IntKind.min, IntKind.max, IntKind.signed, IntKind.bits] at hc hm
  obtain ⟨x, p, l, c, rfl, hx, hrd, hl⟩ := h
  exact PacketBack_walk hx hrd hc hm
end Go.Proofs.Ytkkfhceejhabeaa
