
/- Packets: the program's reading. No conditions. -/
import Derived.Test.YtjjnbcdcppnllaaP6
set_option linter.unusedVariables false
set_option linter.unusedSimpArgs false
set_option linter.unusedSectionVars false
set_option maxRecDepth 100000
namespace Go.Proofs.Ytjjnbcdcppnllaa
open Go.Sp Go.RowKit

theorem Fs.less {fs gs : List (Int × Int)} {k : Nat} (h : Fs (fs ++ gs) k) : Fs fs k := ⟨by have := h.len; rw [List.length_append] at this; omega, fun f hm => h.fit f (by simp [hm]), fun f hm => h.rng f (by simp [hm])⟩
/-- What is read is what was laid. -/
theorem Pre.step {fs : List (Int × Int)} {n s : Int} {bs : List Int} {k o o' : Nat} {n' e : Int} (h : Pre (fs ++ [(n, s)]) bs) (hfs : Fs (fs ++ [(n, s)]) k) (ho : o = (encN fs []).length) (hr : readR bs o s = (n', o', e)) : n' = n ∧ o' = (encN (fs ++ [(n, s)]) []).length := by
  subst ho
  rw [h.read hfs] at hr
  simp only [Prod.mk.injEq] at hr
  exact ⟨hr.1.symm, hr.2.1.symm⟩
section
variable {bs : List Int} {y : PK} (hy : Form bs y)
include hy
theorem Form.p1 : Pre (A1 y) bs := by have := pre1 y; rwa [hy.enc] at this
theorem Form.p2 : Pre (A2 y) bs := by have := pre2 y; rwa [hy.enc] at this
theorem Form.p3 : Pre (A3 y) bs := by have := pre3 y; rwa [hy.enc] at this
theorem Form.p4 : Pre (A4 y) bs := by have := pre4 y; rwa [hy.enc] at this
theorem Form.p5 : Pre (A5 y) bs := by have := pre5 y; rwa [hy.enc] at this
theorem Form.p6 : Pre (A6 y) bs := by have := pre6 y; rwa [hy.enc] at this
theorem Form.p7 : Pre (A7 y) bs := by have := pre7 y; rwa [hy.enc] at this
end
section
variable {y : PK} (hr : RightP y)
include hr
theorem r_cl (h : callB y.kd = false) : y.cl = 0 := by
  unfold RightP at hr
  have : y.kd ≠ 1 ∧ y.kd ≠ 2 := by simpa [callB] using h
  omega
theorem r_ip (h : ipidB y.kd = false) : y.ip = z16 := by
  have h' : y.kd ≠ 1 ∧ y.kd ≠ 3 ∧ y.kd ≠ 4 := by simpa [ipidB, and_assoc] using h
  unfold RightP at hr
  rcases hr.2.2.2.2.2 with h | h | h | h
  · exact absurd h.1 h'.1
  · exact h.2.1
  · omega
  · exact h.2.2.1
theorem r_md (h : (y.kd == 1) = false) : y.md = 0 := by
  unfold RightP at hr
  have : y.kd ≠ 1 := by simpa using h
  omega
theorem r_cd (h : (y.kd == 2) = false) : y.cd = 0 := by
  unfold RightP at hr
  have : y.kd ≠ 2 := by simpa using h
  omega
theorem r_n (h : nB y.kd = false) : y.n = 0 := by
  unfold RightP at hr
  have : y.kd ≠ 1 ∧ y.kd ≠ 2 ∧ y.kd ≠ 3 ∧ y.kd ≠ 4 := by simpa [nB, and_assoc] using h
  omega
end
theorem pk_setI {x : PK} {v : Value} {b : Int} {j : Nat} (hj : j < x.ip.length) : (pkF x v).setIfInBounds (5 + j) (.int .u8 b) = pkF { x with ip := x.ip.set j b } v := by
  apply Array.ext'
  rw [Array.toList_setIfInBounds]
  show (pkL x v).set (5 + j) _ = pkL { x with ip := x.ip.set j b } v
  unfold pkL
  rw [List.set_append_right _ _ (by simp), List.set_append_left _ _ (by simp [by8_length]; omega)]
  have e : 5 + j - ([.int .i64 x.kd, .int .i64 x.fr, .int .i64 x.to, .int .u64 x.sq, .int .u64 x.cl] : List Value).length = j := by simp
  rw [e, by8_set]
  rfl
theorem arith_raw {k : IntKind} {e : Int} {K : Int → Prop} (h : K (IntKind.wrap k e)) : arith k e K := h
theorem wrap_i64 (n : Int) : i64 (IntKind.wrap .i64 n) := by
  simp only [IntKind.wrap, IntKind.signed, IntKind.bits, i64]
  simp
  split <;> omega
section
variable {w₀ w : World} {F : HP}
theorem packet_Decode_1_ok {A B : HP} {g k4 o : Nat} {s : Int} {bs : List Int} (h : Sat w₀ (Rdr g bs o * (A * (blk k4 #[.pointer (some ⟨g, 0, none⟩)] 96 * B))) w) (ho : o ≤ bs.length) (hb : bs.length ≤ 140737488355328) (hr : ∀ b ∈ bs, 0 ≤ b ∧ b ≤ 255) :
    call Try.prog fn_packet_Decode_1 #[.int .i64 s, .pointer (some ⟨k4, 0, none⟩)] w fun v w' => ∃ n o' e, readR bs o s = (n, o', e) ∧ v = .int .u64 n ∧ (0 ≤ n ∧ n < 256 ^ s.toNat ∧ n ≤ 18446744073709551615) ∧ o' ≤ bs.length ∧ Sat w₀ (Rdr g bs o' * (A * (blk k4 #[.pointer (some ⟨g, 0, none⟩)] 96 * B))) w' := by
  apply packet_Decode_1_call
  unfold packet_Decode_1
  refine ldP_ok (h.right.right.left.cell (i := 0) rfl) <| call_mono (wire_Reader_Num_ok (size := s) h ho hb hr) ?_
  rintro _ w' ⟨rfl, h1, h2⟩
  have h3 := readR_num (bs := bs) (at_ := o) (size := s) hr
  exact ⟨_, _, rfl, _, _, _, rfl, rfl, ⟨h3.1, readR_lt hr, h3.2⟩, h1, h2⟩
theorem packet_Decode_ok {p : Option Addr} {l c : Nat} {bs : List Int} (h : Sat w₀ F w) (gx : Gives F 1 p l (by8 bs)) (hc : l ≤ c) (hb : l ≤ 140737488355328) (hr : ∀ b ∈ bs, 0 ≤ b ∧ b ≤ 255) :
    call Try.prog fn_packet_Decode #[.slice p l c] w fun v w' => ∃ y q m d e G, v = .tuple #[.agg (pkF y (.slice q m d)), .int .i64 e] ∧ PIn y ∧ m ≤ 1 ∧ Gives G 36 q m (y.rs.flatMap orC) ∧ Sat w₀ (G * F) w' ∧
      ((e = 0 ∧ Form bs y ∧ ∀ y', Form bs y' → y' = y) ∨ (e = 5 ∧ y = pk0 ∧ ∀ y', ¬ Form bs y')) := by
  apply packet_Decode_call
  unfold packet_Decode
  have hl := (gx _ _ h).len8
  subst hl
  have pin0 : PIn pk0 := ⟨⟨by decide, by decide⟩, ⟨by decide, by decide⟩, ⟨by decide, by decide⟩, ⟨by decide, by decide⟩, ⟨by decide, by decide⟩, rfl, by decide, ⟨by decide, by decide⟩, ⟨by decide, by decide⟩, ⟨by decide, by decide⟩⟩
  refine new_ok h fun k1 w1 h1 => call_mono (wire_NewReader_ok h1 (Gives.right gx) hb) ?_
  rintro _ w2 ⟨g, rfl, h2⟩
  refine asP_ok <| new_ok h2 fun k4 w3 h3 => st_ok (i := 0) h3 (by simp) fun w4 h4 => new_ok h4 fun k5 w5 h5 => ?_
  have h5 : Sat w₀ (Rdr g bs 0 * (blk k5 (pkF pk0 (.slice none 0 0)) T_api_Packet * (blk k4 #[.pointer (some ⟨g, 0, none⟩)] 96 * (blk k1 (pkF pk0 (.slice none 0 0)) T_api_Packet * F)))) w5 := h5.perm (by
    show blk k5 (pkF pk0 (.slice none 0 0)) T_api_Packet * (blk k4 #[.pointer (some ⟨g, 0, none⟩)] 96 * (Rdr g bs 0 * (blk k1 (pkF pk0 (.slice none 0 0)) T_api_Packet * F))) = _
    ac_rfl)
  refine call_mono (packet_Decode_1_ok (s := 1) h5 (by omega) hb hr) ?_
  rintro _ w6 ⟨n1, o1, e1, E1, rfl, ⟨q1, q1', _⟩, b1, h6⟩
  have q1' : n1 < 256 := q1'
  refine asI_ok <| arith_i64 (by omega) (by omega) <| call_mono (packet_Decode_1_ok (s := 1) h6 b1 hb hr) ?_
  rintro _ w7 ⟨n2, o2, e2, E2, rfl, ⟨q2, q2', _⟩, b2, h7⟩
  have q2' : n2 < 256 := q2'
  refine asI_ok <| arith_i64 (by omega) (by omega) <| call_mono (packet_Decode_1_ok (s := 1) h7 b2 hb hr) ?_
  rintro _ w8 ⟨n3, o3, e3, E3, rfl, ⟨q3, q3', _⟩, b3, h8⟩
  have q3' : n3 < 256 := q3'
  refine asI_ok <| arith_i64 (by omega) (by omega) <| call_mono (packet_Decode_1_ok (s := 8) h8 b3 hb hr) ?_
  rintro _ w9 ⟨n4, o4, e4, E4, rfl, ⟨q4, _, q4'⟩, b4, h9⟩
  -- the first four
  have I1 : ∀ y, Form bs y → o4 = (encN (A1 y) []).length ∧ y.kd = n1 ∧ y.fr = n2 ∧ y.to = n3 ∧ y.sq = n4 := by
    intro y hy
    have f1 := fs1 hy.pin hy.right
    have p1 := hy.p1
    have f0 : Fs (([(y.kd, 1)] ++ [(y.fr, 1)]) ++ [(y.to, 1)]) 4 := f1.less
    have p0 : Pre (([(y.kd, 1)] ++ [(y.fr, 1)]) ++ [(y.to, 1)]) bs := p1.less
    obtain ⟨a1, a2⟩ := Pre.step (fs := []) (n := y.kd) (s := 1) p0.less.less f0.less.less rfl E1
    obtain ⟨a3, a4⟩ := Pre.step (fs := [(y.kd, 1)]) (n := y.fr) (s := 1) p0.less f0.less a2 E2
    obtain ⟨a5, a6⟩ := Pre.step (fs := [(y.kd, 1)] ++ [(y.fr, 1)]) (n := y.to) (s := 1) p0 f0 a4 E3
    obtain ⟨a7, a8⟩ := Pre.step (fs := A0 y) (n := y.sq) (s := 8) p1 f1 a6 E4
    exact ⟨a8, a1.symm, a3.symm, a5.symm, a7.symm⟩
  have h9 := h9.perm (B := blk k5 (pkF pk0 (.slice none 0 0)) T_api_Packet * (Rdr g bs o4 * (blk k4 #[.pointer (some ⟨g, 0, none⟩)] 96 * (blk k1 (pkF pk0 (.slice none 0 0)) T_api_Packet * F)))) (by ac_rfl)
  refine asI_ok <| st_ok (i := 0) h9 (pk_lt (by decide)) fun w10 h10 => ?_
  rw [pk_set 0 (by omega)] at h10
  have h10 : Sat w₀ (blk k5 (pkF { pk0 with kd := n1 } (.slice none 0 0)) T_api_Packet * (Rdr g bs o4 * (blk k4 #[.pointer (some ⟨g, 0, none⟩)] 96 * (blk k1 (pkF pk0 (.slice none 0 0)) T_api_Packet * F)))) w10 := h10
  refine st_ok (i := 1) h10 (pk_lt (by decide)) fun w11 h11 => ?_
  rw [pk_set 1 (by omega)] at h11
  have h11 : Sat w₀ (blk k5 (pkF { pk0 with kd := n1, fr := n2 } (.slice none 0 0)) T_api_Packet * (Rdr g bs o4 * (blk k4 #[.pointer (some ⟨g, 0, none⟩)] 96 * (blk k1 (pkF pk0 (.slice none 0 0)) T_api_Packet * F)))) w11 := h11
  refine st_ok (i := 2) h11 (pk_lt (by decide)) fun w12 h12 => ?_
  rw [pk_set 2 (by omega)] at h12
  have h12 : Sat w₀ (blk k5 (pkF { pk0 with kd := n1, fr := n2, to := n3 } (.slice none 0 0)) T_api_Packet * (Rdr g bs o4 * (blk k4 #[.pointer (some ⟨g, 0, none⟩)] 96 * (blk k1 (pkF pk0 (.slice none 0 0)) T_api_Packet * F)))) w12 := h12
  refine st_ok (i := 3) h12 (pk_lt (by decide)) fun w13 h13 => ?_
  rw [pk_set 3 (by omega)] at h13
  -- a state
  let S : PK → Nat → HP := fun x o => blk k5 (pkF x (.slice none 0 0)) T_api_Packet * (Rdr g bs o * (blk k4 #[.pointer (some ⟨g, 0, none⟩)] 96 * (blk k1 (pkF pk0 (.slice none 0 0)) T_api_Packet * F)))
  let X : Int → List Int → Int → Int → Int → PK := fun cl ip md n cd => ⟨n1, n2, n3, n4, cl, ip, md, n, cd, []⟩
  have h13 : Sat w₀ (S (X 0 z16 0 0 0) o4) w13 := h13
  have num : ∀ {w : World} {x : PK} {o : Nat} {s : Int}, Sat w₀ (S x o) w → o ≤ bs.length → call Try.prog fn_packet_Decode_1 #[.int .i64 s, .pointer (some ⟨k4, 0, none⟩)] w fun v w' => ∃ n o' e, readR bs o s = (n, o', e) ∧ v = .int .u64 n ∧ (0 ≤ n ∧ n < 256 ^ s.toNat ∧ n ≤ 18446744073709551615) ∧ o' ≤ bs.length ∧ Sat w₀ (S x o') w' := by
    intro w x o s hw ho
    refine call_mono (packet_Decode_1_ok (s := s) (hw.perm (B := Rdr g bs o * (blk k5 (pkF x (.slice none 0 0)) T_api_Packet * (blk k4 #[.pointer (some ⟨g, 0, none⟩)] 96 * (blk k1 (pkF pk0 (.slice none 0 0)) T_api_Packet * F)))) (by simp only [S]; ac_rfl)) ho hb hr) ?_
    rintro v w' ⟨n, o', e, a1, a2, a3, a4, a5⟩
    exact ⟨n, o', e, a1, a2, a3, a4, a5.perm (by simp only [S]; ac_rfl)⟩
  refine ldI_ok (cell_blk (h13 : Sat w₀ (blk k5 _ _ * _) w13) (i := 0) rfl) <| call_pure (packet_row_ok _) ⟨_, _, _, _, _, _, rfl, fun w => ∃ cl o, Sat w₀ (S (X cl z16 0 0 0) o) w ∧ u64 cl ∧ o ≤ bs.length ∧ ∀ y, Form bs y → o = (encN (A2 y) []).length ∧ y.cl = cl, ?_, ?_⟩
  · refine br_split (fun hk => call_mono (num (s := 8) h13 b4) ?_) (fun hk => ⟨0, o4, h13, ⟨by decide, by decide⟩, b4, fun y hy => ?_⟩)
    · rintro _ w14 ⟨n5, o5, e5, E5, rfl, ⟨q5, _, q5'⟩, b5, h14⟩
      refine asI_ok <| st_ok (i := 4) (h14 : Sat w₀ (blk k5 _ _ * _) w14) (pk_lt (by decide)) fun w15 h15 => ?_
      rw [pk_set 4 (by omega)] at h15
      refine ⟨n5, o5, h15, ⟨q5, q5'⟩, b5, fun y hy => ?_⟩
      have i1 := I1 y hy
      have f := fs2 hy.pin hy.right
      have pp := hy.p2
      rw [A2, if_pos (by rw [i1.2.1]; exact hk)] at f pp ⊢
      have := Pre.step pp f i1.1 E5
      exact ⟨this.2, this.1.symm⟩
    · have i1 := I1 y hy
      rw [A2, if_neg (by rw [i1.2.1, hk]; simp)]
      exact ⟨i1.1, r_cl hy.right (by rw [i1.2.1]; exact hk)⟩
  rintro u w17 ⟨cl, o5, h17, rcl, b5, I2⟩
  refine ⟨fun i w m => ∃ (j : Nat) (ip : List Int) (o : Nat), i = j ∧ j ≤ 16 ∧ m = 16 - j ∧ Sat w₀ (S (X cl ip 0 0 0) o) w ∧ ip.length = 16 ∧ (∀ b ∈ ip, 0 ≤ b ∧ b ≤ 255) ∧ o ≤ bs.length ∧ (ipidB n1 = false → ip = z16) ∧
      ∀ y, Form bs y → o = (encN (if ipidB n1 then A2 y ++ (y.ip.take j).map (·, 1) else A2 y) []).length ∧ (ipidB n1 = true → ip.take j = y.ip.take j),
    ⟨_, 0, z16, o5, rfl, by omega, rfl, h17, rfl, by decide, b5, fun _ => rfl, fun y hy => ⟨?_, by simp⟩⟩, ?_⟩
  · simp only [List.take_zero, List.map_nil, List.append_nil, ite_self]
    exact (I2 y hy).1
  rintro u _ w18 m ⟨j, ip, o6, rfl, hj, rfl, h18, lip, rip, b6, iz, I3⟩
  refine br_dec (fun hlt => br_split (fun hk => ?_) (fun hk => ?_)) (fun hge => ?_)
  · refine call_mono (num (s := 1) h18 b6) ?_
    rintro _ w19 ⟨n6, o7, e6, E6, rfl, ⟨q6, q6', _⟩, b7, h19⟩
    have q6' : n6 < 256 := q6'
    refine asI_ok <| arith_u8 ⟨by omega, ?_⟩
    rw [show n6 % 256 = n6 by omega, add_mk, add_mk, show 0 + 5 + Int.toNat (j : Int) * 1 = 5 + j by omega]
    refine st_ok (i := 5 + j) (h19 : Sat w₀ (blk k5 _ _ * _) w19) (by rw [pk_size (by exact lip)]; omega) fun w20 h20 => ?_
    rw [pk_setI (by show j < ip.length; omega)] at h20
    refine arith_i64 (by omega) (by omega) ⟨_, by omega, j + 1, ip.set j n6, o7, by omega, by omega, rfl, h20, by rw [List.length_set]; exact lip, fun b hb => ?_, b7, (fun h => by have hk' : ipidB n1 = true := hk; rw [hk'] at h; cases h), fun y hy => ?_⟩
    · rcases List.mem_or_eq_of_mem_set hb with hb | rfl
      · exact rip b hb
      · omega
    · have i3 := I3 y hy
      rw [if_pos hk] at i3 ⊢
      have ly := hy.pin.ip
      have hyj : y.ip[j]? = some (y.ip[j]'(by omega)) := by simp
      have e : A2 y ++ (y.ip.take (j + 1)).map (·, (1 : Int)) = (A2 y ++ (y.ip.take j).map (·, 1)) ++ [(y.ip[j]'(by omega), 1)] := by rw [List.take_add_one, hyj, List.map_append, List.append_assoc]; rfl
      have kd := (I1 y hy).2.1
      have p3 := hy.p3
      have f3 := fs3 hy.pin hy.right
      rw [A3, if_pos (by rw [kd]; exact hk)] at p3 f3
      have e3 : A2 y ++ y.ip.map (·, (1 : Int)) = (A2 y ++ (y.ip.take (j + 1)).map (·, 1)) ++ (y.ip.drop (j + 1)).map (·, 1) := by rw [List.append_assoc, ← List.map_append, List.take_append_drop]
      rw [e3, e] at p3 f3
      have := Pre.step p3.less f3.less i3.1 E6
      rw [e]
      refine ⟨this.2, fun _ => ?_⟩
      rw [List.take_add_one, List.take_add_one, hyj, List.take_set_of_le (Nat.le_refl j), i3.2 hk, List.getElem?_set_self (by omega), this.1]
  · refine arith_i64 (by omega) (by omega) ⟨_, by omega, j + 1, ip, o6, by omega, by omega, rfl, h18, lip, rip, b6, iz, fun y hy => ?_⟩
    have i3 := I3 y hy
    rw [if_neg (by rw [hk]; simp)] at i3 ⊢
    exact ⟨i3.1, fun h => by rw [hk] at h; cases h⟩
  have : j = 16 := by omega
  subst this
  have I3' : ∀ y, Form bs y → o6 = (encN (A3 y) []).length ∧ y.ip = ip := by
    intro y hy
    have i3 := I3 y hy
    have kd := (I1 y hy).2.1
    have ly := hy.pin.ip
    rw [A3, kd]
    rw [List.take_of_length_le (by omega)] at i3
    refine ⟨i3.1, ?_⟩
    by_cases hk : ipidB n1 = true
    · have := i3.2 hk
      rw [List.take_of_length_le (by omega)] at this
      exact this.symm
    · have hk : ipidB n1 = false := by simpa using hk
      rw [iz hk]
      exact r_ip hy.right (by rw [kd]; exact hk)
  refine ⟨fun w => ∃ md o, Sat w₀ (S (X cl ip md 0 0) o) w ∧ i64 md ∧ o ≤ bs.length ∧ ∀ y, Form bs y → o = (encN (A4 y) []).length ∧ y.md = md, ?_, ?_⟩
  · refine br_split (fun hk => call_mono (num (s := 1) h18 b6) ?_) (fun hk => ⟨0, o6, h18, ⟨by decide, by decide⟩, b6, fun y hy => ?_⟩)
    · rintro _ w14 ⟨n5, o5, e5, E5, rfl, ⟨q5, q5', _⟩, b5, h14⟩
      have q5' : n5 < 256 := q5'
      refine asI_ok <| arith_i64 (by omega) (by omega) <| st_ok (i := 21) (h14 : Sat w₀ (blk k5 _ _ * _) w14) (by rw [pk_size (by exact lip)]; omega) fun w15 h15 => ?_
      rw [show 21 = 21 + 0 from rfl, pk_setT (by exact lip)] at h15
      refine ⟨n5, o5, h15, ⟨by omega, by omega⟩, b5, fun y hy => ?_⟩
      have i3 := I3' y hy
      have kd := (I1 y hy).2.1
      have f := fs4 hy.pin hy.right
      have pp := hy.p4
      rw [A4, if_pos (by rw [kd]; exact hk)] at f pp ⊢
      have := Pre.step pp f i3.1 E5
      exact ⟨this.2, this.1.symm⟩
    · have kd := (I1 y hy).2.1
      rw [A4, if_neg (by rw [kd, hk]; simp)]
      exact ⟨(I3' y hy).1, r_md hy.right (by rw [kd]; exact hk)⟩
  rintro u w23 ⟨md, o8, h23, rmd, b8, I4⟩
  refine ⟨fun w => ∃ cd o, Sat w₀ (S (X cl ip md 0 cd) o) w ∧ i64 cd ∧ o ≤ bs.length ∧ ∀ y, Form bs y → o = (encN (A5 y) []).length ∧ y.cd = cd, ?_, ?_⟩
  · refine br_split (fun hk => call_mono (num (s := 1) h23 b8) ?_) (fun hk => ⟨0, o8, h23, ⟨by decide, by decide⟩, b8, fun y hy => ?_⟩)
    · rintro _ w14 ⟨n5, o5, e5, E5, rfl, ⟨q5, q5', _⟩, b5, h14⟩
      have q5' : n5 < 256 := q5'
      refine asI_ok <| arith_i64 (by omega) (by omega) <| st_ok (i := 23) (h14 : Sat w₀ (blk k5 _ _ * _) w14) (by rw [pk_size (by exact lip)]; omega) fun w15 h15 => ?_
      rw [show 23 = 21 + 2 from rfl, pk_setT (by exact lip)] at h15
      refine ⟨n5, o5, h15, ⟨by omega, by omega⟩, b5, fun y hy => ?_⟩
      have kd := (I1 y hy).2.1
      have f := fs5 hy.pin hy.right
      have pp := hy.p5
      rw [A5, if_pos (by rw [kd]; exact hk)] at f pp ⊢
      have := Pre.step pp f (I4 y hy).1 E5
      exact ⟨this.2, this.1.symm⟩
    · have kd := (I1 y hy).2.1
      rw [A5, if_neg (by rw [kd, hk]; simp)]
      exact ⟨(I4 y hy).1, r_cd hy.right (by rw [kd]; exact hk)⟩
  rintro u w26 ⟨cd, o9, h26, rcd, b9, I5⟩
  refine ⟨fun w => ∃ n o, Sat w₀ (S (X cl ip md n cd) o) w ∧ i64 n ∧ o ≤ bs.length ∧ ∀ y, Form bs y → o = (encN (A6 y) []).length ∧ y.n = n, ?_, ?_⟩
  · refine br_split (fun hk => call_mono (num (s := 8) h26 b9) ?_) (fun hk => ⟨0, o9, h26, ⟨by decide, by decide⟩, b9, fun y hy => ?_⟩)
    · rintro _ w14 ⟨n5, o5, e5, E5, rfl, ⟨q5, _, q5'⟩, b5, h14⟩
      refine asI_ok <| arith_raw <| st_ok (i := 22) (h14 : Sat w₀ (blk k5 _ _ * _) w14) (by rw [pk_size (by exact lip)]; omega) fun w15 h15 => ?_
      rw [show 22 = 21 + 1 from rfl, pk_setT (by exact lip)] at h15
      refine ⟨IntKind.wrap .i64 n5, o5, h15, wrap_i64 _, b5, fun y hy => ?_⟩
      have kd := (I1 y hy).2.1
      have f := fs6 hy.pin hy.right
      have pp := hy.p6
      rw [A6, if_pos (by rw [kd]; exact hk)] at f pp ⊢
      have := Pre.step pp f (I5 y hy).1 E5
      refine ⟨this.2, ?_⟩
      rw [this.1, i64_un hy.pin.n]
    · have kd := (I1 y hy).2.1
      rw [A6, if_neg (by rw [kd, hk]; simp)]
      exact ⟨(I5 y hy).1, r_n hy.right (by rw [kd]; exact hk)⟩
  rintro u w29 ⟨n, o10, h29, rn_, b10, I6⟩
  -- the packet, but for what it refers to
  have pinX : ∀ rs, PIn ⟨n1, n2, n3, n4, cl, ip, md, n, cd, rs⟩ := fun rs => ⟨⟨by dsimp only; omega, by dsimp only; omega⟩, ⟨by dsimp only; omega, by dsimp only; omega⟩, ⟨by dsimp only; omega, by dsimp only; omega⟩, ⟨q4, q4'⟩, rcl, lip, rip, rmd, rn_, rcd⟩
  have all : ∀ y rs, Form bs y → rs = y.rs → y = ⟨n1, n2, n3, n4, cl, ip, md, n, cd, rs⟩ := by
    intro y rs hy hrs
    have i1 := I1 y hy
    rw [pk_iff]
    exact ⟨i1.2.1, i1.2.2.1, i1.2.2.2.1, i1.2.2.2.2, (I2 y hy).2, (I3' y hy).2, (I4 y hy).2, (I6 y hy).2, (I5 y hy).2, hrs.symm⟩
  refine ⟨fun w => ∃ (rs : List OR) (q : Option Addr) (m d : Nat) (G : HP), Sat w₀ (blk k5 (pkF (⟨n1, n2, n3, n4, cl, ip, md, n, cd, rs⟩ : PK) (.slice q m d)) T_api_Packet * (G * (blk k1 (pkF pk0 (.slice none 0 0)) T_api_Packet * F))) w ∧ Gives G 36 q m (rs.flatMap orC) ∧ m ≤ 1 ∧ ∀ y, Form bs y → rs = y.rs, ?_, ?_⟩
  · refine ⟨fun b w => ∃ o, Sat w₀ (S (X cl ip md n cd) o) w ∧ o ≤ bs.length ∧ ∀ y, Form bs y → o = (encN (A7 y) []).length ∧ (b = true ↔ y.rs.length = 1), ?_, ?_⟩
    · refine br_split (fun hk => call_mono (num (s := 8) h29 b10) ?_) (fun hk => ⟨o10, h29, b10, fun y hy => ?_⟩)
      · rintro _ w14 ⟨n5, o5, e5, E5, rfl, ⟨q5, _, q5'⟩, b5, h14⟩
        refine asI_ok ⟨o5, h14, b5, fun y hy => ?_⟩
        have kd := (I1 y hy).2.1
        have f := fs7 hy.pin hy.right
        have pp := hy.p7
        rw [A7, if_pos (by rw [kd]; exact hk)] at f pp ⊢
        have := Pre.step pp f (I6 y hy).1 E5
        refine ⟨this.2, ?_⟩
        rw [this.1]
        simp
        omega
      · have kd := (I1 y hy).2.1
        have hk' : y.kd ≠ 1 := by rw [kd]; simpa using hk
        rw [A7, if_neg (by simpa using hk'), (rs_one hy.pin hy.right).2.1 hk']
        exact ⟨(I6 y hy).1, by simp⟩
    rintro u b62 w31 ⟨o11, h31, b11, I7⟩
    have h32 := h31.perm (B := Rdr g bs o11 * (blk k5 (pkF (X cl ip md n cd) (.slice none 0 0)) T_api_Packet * (blk k4 #[.pointer (some ⟨g, 0, none⟩)] 96 * (blk k1 (pkF pk0 (.slice none 0 0)) T_api_Packet * F)))) (by simp only [S]; ac_rfl)
    refine br_split (fun hb1 => ?_) (fun hb1 => ?_)
    · refine ldP_ok (h32.right.right.left.cell (i := 0) rfl) <| call_mono (wire_Left_ok h32 b11 (by omega)) ?_
      rintro _ w33 ⟨rfl, h33⟩
      have ho : (bs.length : Int) - ((bs.length - o11 : Nat) : Int) = (o11 : Nat) := by omega
      refine asI_ok <| arith_i64 (by omega) (by omega) ?_
      rw [ho]
      refine slc_ok (by omega) (by omega) (by omega) ?_
      rw [Int.toNat_natCast, Int.toNat_natCast]
      have gs := Gives.sub8 gx (lo := o11) (hi := bs.length) b11 (Nat.le_refl _) hc
      have etk : (bs.drop o11).take (bs.length - o11) = bs.drop o11 := List.take_of_length_le (by rw [List.length_drop]; omega)
      rw [etk] at gs
      have hrd : ∀ b ∈ bs.drop o11, 0 ≤ b ∧ b ≤ 255 := fun b hb => hr b (List.mem_of_mem_drop hb)
      refine call_mono (objref_Decode_ok h33 (Gives.right (Gives.right (Gives.right (Gives.right gs)))) (by omega) hrd) ?_
      rintro _ w34 ⟨rfl, h34⟩
      have hin := decR_in hrd
      refine ⟨_, _, rfl, new_ok h34 fun k71 w35 h35 => stA_ok h35 rfl (orF_size hin) orF_one fun w36 h36 => ldO h36 hin ⟨orF_size hin, new_ok h36 fun k73 w37 h37 => ?_⟩⟩
      have h38 := h37.perm (B := blk k5 (pkF (X cl ip md n cd) (.slice none 0 0)) T_api_Packet * (blk k73 (orF (decR (bs.drop o11)).1) T_api_Objref * (blk k1 (pkF pk0 (.slice none 0 0)) T_api_Packet * F * (blk k71 (orF (decR (bs.drop o11)).1) T_api_Objref * (Rdr g bs o11 * blk k4 #[.pointer (some ⟨g, 0, none⟩)] 96))))) (by ac_rfl)
      refine st_ok (i := 24) h38 (by rw [pk_size (by exact lip)]; omega) fun w38 h39 => ?_
      rw [show 24 = 21 + 3 from rfl, pk_setT (by exact lip)] at h39
      refine ⟨[⟨(decR (bs.drop o11)).1, hin⟩], some ⟨k73, 0, none⟩, 1, 1, blk k73 (orF (decR (bs.drop o11)).1) T_api_Objref, (h39.perm (B := (blk k71 (orF (decR (bs.drop o11)).1) T_api_Objref * (Rdr g bs o11 * blk k4 #[.pointer (some ⟨g, 0, none⟩)] 96)) * (blk k5 (pkF (⟨n1, n2, n3, n4, cl, ip, md, n, cd, [⟨(decR (bs.drop o11)).1, hin⟩]⟩ : PK) (.slice (some ⟨k73, 0, none⟩) 1 1)) T_api_Packet * (blk k73 (orF (decR (bs.drop o11)).1) T_api_Objref * (blk k1 (pkF pk0 (.slice none 0 0)) T_api_Packet * F)))) ?_).right, ?_, Nat.le_refl _, fun y hy => ?_⟩
      · show blk k5 (pkF (⟨n1, n2, n3, n4, cl, ip, md, n, cd, [⟨(decR (bs.drop o11)).1, hin⟩]⟩ : PK) (.slice (some ⟨k73, 0, none⟩) 1 1)) T_api_Packet * _ = _
        ac_rfl
      · have e : ([⟨(decR (bs.drop o11)).1, hin⟩] : List OR).flatMap orC = (orF (decR (bs.drop o11)).1).toList := by
          show orC ⟨(decR (bs.drop o11)).1, hin⟩ ++ [] = _
          rw [List.append_nil]
          rfl
        rw [e]
        exact Gives.ob (by rw [orF_size hin])
      · have i7 := I7 y hy
        obtain ⟨r, hrs⟩ := List.length_eq_one_iff.1 (i7.2.1 hb1)
        have hrr := (rs_one hy.pin hy.right).2.2 r (by rw [hrs]; simp)
        have e : bs.drop o11 = encL r.1 := by
          rw [← hy.enc, i7.1, encP, List.drop_left, hrs]
          show encL r.1 ++ [] = _
          rw [List.append_nil]
        rw [hrs]
        congr 1
        apply Subtype.ext
        show (decR (bs.drop o11)).1 = r.1
        rw [e, decR_encL r.2 hrr]
    · refine ⟨[], none, 0, 0, emp, (h32.perm (B := (Rdr g bs o11 * blk k4 #[.pointer (some ⟨g, 0, none⟩)] 96) * (blk k5 (pkF (X cl ip md n cd) (.slice none 0 0)) T_api_Packet * (blk k1 (pkF pk0 (.slice none 0 0)) T_api_Packet * F))) (by ac_rfl)).right.with_emp.perm (by ac_rfl), Gives.nil _ _ _, by omega, fun y hy => ?_⟩
      have i7 := I7 y hy
      have h1 := (rs_one hy.pin hy.right).1
      have h2 : ¬ y.rs.length = 1 := fun h => by rw [i7.2.2 h] at hb1; cases hb1
      exact (List.eq_nil_of_length_eq_zero (by omega)).symm
  rintro u w38 ⟨rs, q, m, d, G, h38, gG, hm, I8⟩
  have hX := pinX rs
  have hdone : ∀ y, Form bs y → y = ⟨n1, n2, n3, n4, cl, ip, md, n, cd, rs⟩ := fun y hy => all y rs hy (I8 y hy)
  refine ldPk h38 lip ?_
  have none_ : ∀ {w : World} {A : HP}, Sat w₀ (A * (blk k1 (pkF pk0 (.slice none 0 0)) T_api_Packet * F)) w → (∀ y', ¬ Form bs y') →
      stA Try.prog (⟨k1, 0, none⟩ : Addr) 25 (pkF pk0 (.slice none 0 0)) w fun w40 => ldA (⟨k1, 0, none⟩ : Addr) 25 w40 fun g79 =>
        ∃ y q m d e G, Value.tuple #[.agg g79, .int .i64 5] = .tuple #[.agg (pkF y (.slice q m d)), .int .i64 e] ∧ PIn y ∧ m ≤ 1 ∧ Gives G 36 q m (y.rs.flatMap orC) ∧ Sat w₀ (G * F) w40 ∧ ((e = 0 ∧ Form bs y ∧ ∀ y', Form bs y' → y' = y) ∨ (e = 5 ∧ y = pk0 ∧ ∀ y', ¬ Form bs y')) := by
    intro w A hw hno
    refine stA_ok hw.right rfl rfl pk_one fun w40 h40 => ldPk h40 rfl ⟨pk0, none, 0, 0, 5, emp, rfl, pin0, by omega, Gives.nil _ _ _, h40.right.with_emp, .inr ⟨rfl, rfl, hno⟩⟩
  by_cases hright : RightP ⟨n1, n2, n3, n4, cl, ip, md, n, cd, rs⟩
  · refine call_mono (packet_Encode_ok h38 hX hright (Gives.right (Gives.left gG)) (by omega)) ?_
    rintro _ w39 ⟨qe, de, rfl, h39⟩
    have hFb := gx _ _ h39.right.right.right.right
    refine ⟨_, _, _, _, rfl, br_false rfl <| call_mono (bytes_Equal_ok h39.left.rd hFb (encP_by hX hright) hr) ?_⟩
    rintro _ w40 ⟨rfl, rfl⟩
    refine asB_ok <| br_split (fun hne => ?_) (fun heq => ?_)
    · have hne : encP ⟨n1, n2, n3, n4, cl, ip, md, n, cd, rs⟩ ≠ bs := by simpa using hne
      exact none_ (A := own T_uint8 1 qe _ de _ * (blk k5 _ _ * G)) (h39.perm (by ac_rfl)) fun y' hy' => hne (by rw [← hdone y' hy']; exact hy'.enc)
    · have heq : encP ⟨n1, n2, n3, n4, cl, ip, md, n, cd, rs⟩ = bs := by simpa using heq
      refine ldPk h39.right lip <| stA_ok (h39.perm (B := blk k1 (pkF pk0 (.slice none 0 0)) T_api_Packet * (own T_uint8 1 qe (encP ⟨n1, n2, n3, n4, cl, ip, md, n, cd, rs⟩).length de (by8 (encP ⟨n1, n2, n3, n4, cl, ip, md, n, cd, rs⟩)) * (blk k5 (pkF ⟨n1, n2, n3, n4, cl, ip, md, n, cd, rs⟩ (.slice q m d)) T_api_Packet * (G * F)))) (by ac_rfl)) rfl (pk_size lip) pk_one fun w41 h41 => ldPk h41 lip ⟨_, q, m, d, 0, G, rfl, hX, hm, gG, h41.right.right.right, .inl ⟨rfl, ⟨hX, hright, heq⟩, hdone⟩⟩
  · refine call_mono (packet_Encode_no h38 hX hright (Gives.right (Gives.left gG)) (by omega)) ?_
    rintro _ w39 ⟨rfl, h39⟩
    exact ⟨_, _, _, _, rfl, br_true rfl <| none_ (A := blk k5 _ _ * G) (h39.perm (by ac_rfl)) fun y' hy' => hright (by rw [← hdone y' hy']; exact hy'.right)⟩
end
end Go.Proofs.Ytjjnbcdcppnllaa
