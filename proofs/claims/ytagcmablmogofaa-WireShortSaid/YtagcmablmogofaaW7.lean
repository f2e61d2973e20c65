/- WireReads: the walk. No conditions. -/
import Derived.Test.YtagcmablmogofaaW3
import Derived.Test.YtagcmablmogofaaW6
set_option linter.unusedVariables false
set_option linter.unusedSimpArgs false
namespace Go.Proofs.Ytagcmablmogofaa
open Go.Sp Go.RowKit

theorem tenonref05_ReadText_ok {w₀ w : World} {F : HP} {p : Option Addr} {c at_ : Nat} {bs : List Int} {most : Int} (h : Sat w₀ F w) (hx : Gives F 1 p bs.length (by8 bs)) (hc : bs.length ≤ c) (hat : at_ ≤ bs.length) (hb : bs.length ≤ 140737488355328)
    (hr : ∀ b ∈ bs, 0 ≤ b ∧ b ≤ 255) (hm : most ≤ 9223372036854775807) :
    call Try.prog fn_tenonref05_ReadText #[.slice p bs.length c, .int .i64 at_, .int .i64 most] w fun v w' => ∃ q d,
      v = .tuple #[.slice q (textR bs at_ most).1.length d, .int .i64 (textR bs at_ most).2.1, .int .i64 (textR bs at_ most).2.2] ∧ Sat w₀ (own T_uint8 1 q (textR bs at_ most).1.length d (by8 (textR bs at_ most).1) * F) w' := by
  apply tenonref05_ReadText_call
  unfold tenonref05_ReadText
  have hR := readR_at (size := 4) hat
  have hN := readR_num (at_ := at_) (size := 4) hr
  refine call_pure' (tenonref05_Read_ok (hx _ _ h) hat hb hr) ?_
  rcases hr4 : readR bs at_ 4 with ⟨n, k, e⟩
  rw [hr4] at hR hN
  dsimp only at hR hN ⊢
  have hT : textR bs at_ most = if e ≠ 0 then ([], at_, e) else if most < 0 ∨ n > most then ([], at_, 20) else if n > ((bs.length - k : Nat) : Int) then ([], at_, 6) else ((bs.drop k).take n.toNat, k + n.toNat, 0) := by
    simp only [textR, hr4]
  have nil : ∀ {z : Int}, textR bs at_ most = ([], at_, z) → ∃ q d, Value.tuple #[.slice none 0 0, .int .i64 at_, .int .i64 z] = .tuple #[.slice q (textR bs at_ most).1.length d, .int .i64 (textR bs at_ most).2.1, .int .i64 (textR bs at_ most).2.2] ∧
      Sat w₀ (own T_uint8 1 q (textR bs at_ most).1.length d (by8 (textR bs at_ most).1) * F) w := by
    intro z ht
    rw [ht]
    exact ⟨none, 0, rfl, h.own_nil _ _⟩
  refine ⟨n, k, e, rfl, br_split (fun he => ?_) (fun he => ?_)⟩
  · exact nil (by rw [hT, if_pos (by simpa using he)])
  · have he : e = 0 := by simpa using he
    rw [if_neg (by simpa using he)] at hT
    refine br_dec (fun hlt => nil (by rw [hT, if_pos (.inl hlt)])) (fun hge => arith_u64 (by omega) (by omega) <| br_dec (fun hgt => nil (by rw [hT, if_pos (.inr hgt)])) (fun hle => ?_))
    rw [if_neg (by omega)] at hT
    refine arith_i64 (by omega) (by omega) <| arith_u64 (by omega) (by omega) <| br_dec (fun hgt => nil (by rw [hT, if_pos (by omega)])) (fun hle2 => ?_)
    rw [if_neg (by omega)] at hT
    obtain ⟨m, rfl⟩ : ∃ m : Nat, n = m := ⟨n.toNat, by omega⟩
    refine arith_i64 (by omega) (by omega) <| arith_i64 (by omega) (by omega) <| slc_ok (by omega) (by omega) (by omega) ?_
    have e1 : ((k : Int) + (m : Int)).toNat = k + m := by omega
    rw [e1, Int.toNat_natCast]
    have hg : Gives F 1 (if c = k then p else p.map (·.add (k * 1))) (k + m - k) (by8 ((bs.drop k).take (k + m - k))) := Gives.sub8 hx (by omega) (by omega) hc
    rw [show k + m - k = m by omega] at hg ⊢
    have hlen : ((bs.drop k).take m).length = m := by rw [List.length_take, List.length_drop]; omega
    refine app_ok bytesTy (h.own_nil _ _) (hg _ _ h) (by8_one _) (by simp only [maxLen]; omega) (by omega) fun q d w2 h2 => arith_i64 (by omega) (by omega) <| arith_i64 (by omega) (by omega) ?_
    rw [hT]
    dsimp only
    simp only [Int.toNat_natCast, hlen]
    refine ⟨q, d, ?_, by simpa using h2⟩
    rw [Nat.zero_add]
    congr 4

theorem WireReads_walk {W : World} {p p2 : Option Addr} {c l2 c2 : Nat} {bs : List Int} {xs : List ItemD} (hb : Rd W 1 p bs.length (by8 bs)) (hr : ∀ b ∈ bs, 0 ≤ b ∧ b ≤ 255) (hc : bs.length ≤ c) (hx : Items W p2 l2 xs) (hl : l2 ≤ 9223372036854775807) :
    call Try.prog fn_tenonlaw05_WireReads #[.slice p bs.length c, .slice p2 l2 c2] W fun v w' => v = .bool true ∧ Below W.heap.size W w' := by
  apply tenonlaw05_WireReads_call
  unfold tenonlaw05_WireReads
  refine br_dec (fun hgt => ?_) (fun hle => ?_)
  · refine call_mono (tenonlaw05_awake_ok (Sat.start W)) ?_
    rintro _ w1 ⟨rfl, h1⟩
    exact asB_ok ⟨rfl, h1.below'⟩
  refine call_mono (tenonref01_Lent_ok (Sat.start W) (Gives.old hb) (by omega)) ?_
  rintro _ w2 ⟨q, d, rfl, hd, h2⟩
  refine asS_ok <| call_mono (wire_NewReader_ok h2 (Gives.left (Lnt.gives rfl)) (by omega)) ?_
  rintro _ w3 ⟨g, rfl, h3⟩
  refine asP_ok ⟨fun at_ i w m => ∃ k : Nat, at_ = k ∧ k ≤ bs.length ∧ 0 ≤ i ∧ i ≤ 100 ∧ m = 100 - i.toNat ∧ Sat W (Rdr g bs k * (Lnt q bs.length d bs * old W)) w, ⟨_, 0, rfl, by omega, by omega, by omega, rfl, h3⟩, ?_⟩
  rintro u _ i w4 m ⟨k, rfl, hk, h0, h1, rfl, h4⟩
  have fin : ∀ {w}, Sat W (Rdr g bs k * (Lnt q bs.length d bs * old W)) w → call Try.prog 14 #[.slice q bs.length d, .slice p bs.length c] w fun v55 w15 => asB v55 fun b56 => br b56 (
      call Try.prog 10 #[] w15 fun v57 w16 => asB v57 fun b58 => (fun v w' => v = Value.bool true ∧ Below W.heap.size W w') (.bool b58) w16) ((fun v w' => v = Value.bool true ∧ Below W.heap.size W w') (.bool false) w15) := by
    intro w h
    refine call_mono (tenonref01_Kept_ok h.p1 rfl hd (Gives.right (Gives.old hb)) (by omega)) ?_
    rintro _ w15 ⟨rfl, h15⟩
    refine asB_ok <| br_true rfl <| call_mono (tenonlaw05_awake_ok h15) ?_
    rintro _ w16 ⟨rfl, h16⟩
    exact asB_ok ⟨rfl, h16.right.right.below'⟩
  refine br_dec (fun hlt => br_dec (fun hlt2 => ?_) (fun hge => fin h4)) (fun hge => fin h4)
  refine ⟨fun at_ w => ∃ k : Nat, at_ = k ∧ k ≤ bs.length ∧ Sat W (Rdr g bs k * (Lnt q bs.length d bs * old W)) w, ?_, ?_⟩
  · have ho : ∀ {k w}, Sat W (Rdr g bs k * (Lnt q bs.length d bs * old W)) w → Sat W (old W) w := fun h => h.right.right
    refine hx.idx (ho h4) h0 hlt fun a x hxa ha hA => ldB_ok (by rw [add_zero]; exact ha.c0) <| br_split (fun ht => ?_) (fun ht => ?_)
    · refine hx.idx' (ho h4) h0 hlt hxa fun a ha => ldI_ok ha.c2 <| call_mono (wire_Reader_Text_ok h4 hk (by omega) hr ha.s1) ?_
      rintro _ w5 ⟨q1, d1, rfl, h5⟩
      refine ⟨_, _, _, _, rfl, hx.idx' (h5.right.right.right) h0 hlt hxa fun a ha => ldI_ok ha.c2 <| call_mono (tenonref05_ReadText_ok h5 (Gives.right (Gives.right (Gives.right (Gives.old hb)))) hc hk (by omega) hr ha.s1) ?_⟩
      rintro _ w6 ⟨q2, d2, rfl, h6⟩
      refine ⟨_, _, _, _, _, rfl, call_reads (tenonref01_SameBytes_ok h6.right.left.rd h6.left.rd ?_) fun w7 hs => ?_⟩
      · unfold textR
        dsimp only
        split
        · simp
        · split
          · simp
          · split
            · simp
            · simp only [List.length_take, List.length_drop]; omega
      · exact asB_ok <| br_false (by simp) <| br_false (by simp) ⟨_, rfl, textR_at hk, (h6.same hs).right.right⟩
    · refine hx.idx' (ho h4) h0 hlt hxa fun a ha => ldI_ok ha.c2 <| call_mono (wire_Reader_Num_ok h4 hk (by omega) hr) ?_
      rintro _ w5 ⟨rfl, hk5, h5⟩
      refine ⟨_, _, rfl, hx.idx' (ho h5) h0 hlt hxa fun a ha => ldI_ok ha.c2 <| call_pure' (tenonref05_Read_ok (hb.old (ho h5)) hk (by omega) hr) ?_⟩
      exact ⟨_, _, _, rfl, br_false (by simp) <| br_false (by simp) ⟨_, rfl, hk5, h5⟩⟩
  · rintro u _ w10 ⟨k', rfl, hk', h10⟩
    refine call_mono (wire_Left_ok h10 hk' (by omega)) ?_
    rintro _ w11 ⟨rfl, h11⟩
    refine asI_ok <| arith_i64 (by omega) (by omega) <| br_false (by simp; omega) <| call_mono (wire_End_ok h11 hk' (by omega)) ?_
    rintro _ w12 ⟨rfl, h12⟩
    refine asI_ok <| br_false ?_ <| call_mono (wire_End_ok h12 hk' (by omega)) ?_
    · split
      · simp; omega
      · simp; omega
    rintro _ w13 ⟨rfl, h13⟩
    refine asI_ok ?_
    split
    · refine br_true rfl <| call_mono (wire_End_ok h13 hk' (by omega)) ?_
      rintro _ w14 ⟨rfl, h14⟩
      rw [if_pos (by omega)]
      exact asI_ok <| br_false rfl <| arith_i64 (by omega) (by omega) ⟨_, by omega, k', rfl, hk', by omega, by omega, rfl, h14⟩
    · exact br_false rfl <| arith_i64 (by omega) (by omega) ⟨_, by omega, k', rfl, hk', by omega, by omega, rfl, h13⟩
section
open Go.ChangeShapes Go.WideShapes Go.Deep
variable {H : Type} {enc : TypeId × Value → H} {W : World} {base : Nat}
theorem open_Bytes {v : Value} {d : DataW H} {ps : List MemPlace} (hv : Value.okWide Try.prog W .any base T_sl_uint8 v) (h : DataW.Trod enc Try.prog W 0 (fun _ => true) true T_sl_uint8 v d ps) :
    ∃ p c bs, v = .slice p (List.length bs) c ∧ bs.length ≤ c ∧ bs.length ≤ 9223372036854775807 ∧ Rd W 1 p bs.length (by8 bs) ∧ ∀ b ∈ bs, 0 ≤ b ∧ b ≤ 255 := by
  obtain ⟨p0, l0, c0, rfl⟩ := okWide_slice Try.underlying27 hv
  obtain ⟨fuel, h⟩ := h
  have hf : Try.prog.info? T_uint8 = some (Try.prog.types[T_uint8]'(of_decide_eq_true (by kernel_rfl))) := by kernel_rfl
  obtain ⟨p, l, c, zs, e, hlc, hc, hrd, hrg⟩ := open_nums Try.underlying27 hf (by kernel_rfl) Try.underlying5 h
  cases e
  have hl : zs.length = l0 := Rd.len8 hrd
  subst hl
  exact ⟨p0, c0, zs, rfl, hlc, by simp only [maxLen] at hc; omega, hrd, fun b hb => by have := hrg b hb; simpa [IntKind.min, IntKind.max, IntKind.signed, IntKind.bits] using this⟩
end
theorem WireReads_row {W : World} {v v2 : Value} (hb : ∃ p c bs, v = .slice p (List.length bs) c ∧ bs.length ≤ c ∧ bs.length ≤ 9223372036854775807 ∧ Rd W 1 p bs.length (by8 bs) ∧ ∀ b ∈ bs, 0 ≤ b ∧ b ≤ 255)
    (h : ∃ p l c xs, v2 = .slice p l c ∧ l ≤ 9223372036854775807 ∧ Items W p l xs) :
    call Try.prog fn_tenonlaw05_WireReads #[v, v2] W fun v w' => v = .bool true ∧ Below W.heap.size W w' := by
  obtain ⟨p, c, bs, rfl, hc, _, hrd, hr⟩ := hb
  obtain ⟨p2, l2, c2, xs, rfl, hl, hx⟩ := h
  exact WireReads_walk hrd hr hc hx hl
end Go.Proofs.Ytagcmablmogofaa
