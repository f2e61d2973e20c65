/- Packets: the document's form. No conditions. -/
import Derived.Test.YtkkfhceejhabeaaP4
set_option linter.unusedVariables false
set_option linter.unusedSimpArgs false
set_option maxRecDepth 100000
namespace Go.Proofs.Ytkkfhceejhabeaa
open Go.Sp Go.RowKit

theorem encA0 {x : PK} (hr : RightP x) : encN (A0 x) [] = [x.kd, x.fr, x.to] := by
  have hk := hr.kd
  unfold RightP at hr
  have e : A0 x = [x.kd, x.fr, x.to].map (·, (1 : Int)) := rfl
  rw [e, encN_bytes (fun b hb => by simp at hb; omega)]
  rfl
theorem len8 {fs : List (Int × Int)} {n : Int} {L : Nat} (h : (encN fs []).length = L) : (encN (fs ++ [(n, 8)]) []).length = L + (gapI L 8).toNat + 8 := by
  rw [encN_snoc, List.length_append, h, form_length _ _ _ (by omega)]
  simp
  omega
section
variable {w₀ w : World} {F : HP}
/-- The document's Num, at bytes of one's own. -/
theorem rn {q : Option Addr} {d l : Nat} {fs : List (Int × Int)} {n : Int} (h : Sat w₀ (own T_uint8 1 q l d (by8 (encN fs [])) * F) w) (hl : l = (encN fs []).length) (h0 : 0 ≤ n) (h1 : n ≤ 18446744073709551615) (hb : (encN fs []).length ≤ 1000) :
    call Try.prog fn_tenonref05_Num #[.slice q l d, .int .u64 n, .int .i64 8] w fun v w' => ∃ q d, v = .slice q (encN (fs ++ [(n, 8)]) []).length d ∧ Sat w₀ (own T_uint8 1 q (encN (fs ++ [(n, 8)]) []).length d (by8 (encN (fs ++ [(n, 8)]) [])) * F) w' := by
  subst hl
  refine call_mono (tenonref05_Num_ok (size := 8) h (Gives.left Gives.own) rfl h0 h1 (by omega)) ?_
  rintro _ w' ⟨q', d', rfl, h'⟩
  rw [encN_snoc]
  exact ⟨q', d', rfl, (h'.perm (B := own T_uint8 1 q (encN fs []).length d (by8 (encN fs [])) * (own T_uint8 1 q' (encN fs [] ++ form (encN fs []).length n 8).length d' (by8 (encN fs [] ++ form (encN fs []).length n 8)) * F)) (by ac_rfl)).right⟩
theorem ra {p q : Option Addr} {d l m c2 : Nat} {bs ns : List Int} {K : Option Addr → Nat → Nat → World → Prop} (h : Sat w₀ (own T_uint8 1 q l d (by8 bs) * F) w) (hl : l = bs.length) (hx : Rd w 1 p m (by8 ns)) (hb : bs.length + m ≤ 100000)
    (hk : ∀ p' c' w', Sat w₀ (own T_uint8 1 p' (bs ++ ns).length c' (by8 (bs ++ ns)) * F) w' → K p' (bs ++ ns).length c' w') : runsS Try.prog (Builtin.append_ #[T_sl_uint8, T_sl_uint8] T_sl_uint8 #[.slice q l d, .slice p m c2]) w K := by
  subst hl
  have hm := hx.len8
  refine app_ok bytesTy h hx (by8_one _) (by simp only [maxLen]; omega) (by omega) fun p' c' w' h' => ?_
  rw [← by8_append] at h'
  have e : bs.length + m = (bs ++ ns).length := by rw [List.length_append, hm]
  rw [e] at h' ⊢
  exact hk _ _ _ h'
theorem rdIp {x : PK} {v : Value} {k : Nat} {t : TypeId} (h : Sat w₀ (blk k (pkF x v) t * F) w) (hx : x.ip.length = 16) : Rd w 1 (some ((⟨k, 0, none⟩ : Addr).add 5)) 16 (by8 x.ip) := by
  refine ⟨by simp [by8_length, hx], fun _ => ⟨_, rfl⟩, fun a e j u hj => ?_⟩
  cases e
  have hlt := (List.getElem?_eq_some_iff.1 hj).1
  rw [by8_length, hx] at hlt
  rw [add_mk, add_mk, Nat.zero_add]
  exact h.left.cell (i := 5 + j) (by rw [pk_ip hx hlt]; exact hj)
theorem slc5 {k : Nat} {K : Option Addr → Nat → Nat → Prop} (h : K (some ((⟨k, 0, none⟩ : Addr).add 5)) 16 16) : slc (some ((⟨k, 0, none⟩ : Addr).add 5)) 16 1 0 16 K := by
  refine slc_ok (by omega) (by omega) (by omega) ?_
  have e : (if 16 = Int.toNat 0 then (some ((⟨k, 0, none⟩ : Addr).add 5)) else (some ((⟨k, 0, none⟩ : Addr).add 5)).map (·.add (Int.toNat 0 * 1))) = some ((⟨k, 0, none⟩ : Addr).add 5) := by
    simp [add_mk]
  rw [e]
  exact h
theorem refP_Encode_ok {x : PK} {p : Option Addr} {l c : Nat} (h : Sat w₀ F w) (hx : PIn x) (hr : RightP x) (gx : Gives F 36 p l (x.rs.flatMap orC)) :
    call Try.prog fn_tenonref08_Encode #[.agg (pkF x (.slice p l c))] w fun v w' => ∃ q d, v = .slice q (encP x).length d ∧ Sat w₀ (own T_uint8 1 q (encP x).length d (by8 (encP x)) * F) w' := by
  apply tenonref08_Encode_call
  unfold tenonref08_Encode
  have hk := hr.kd
  have hone := rs_one hx hr
  have hrr := hr
  obtain ⟨r0, r1, r2, r3, _, hkind⟩ := hrr
  have el := refs_len (gx _ _ h)
  subst el
  have hun := un_range x.n
  have s7 := ((fs7 hx hr).mono (m := 30) (by omega)).small
  have s6 := ((fs6 hx hr).mono (m := 30) (by omega)).small
  have s5 := ((fs5 hx hr).mono (m := 30) (by omega)).small
  have s4 := ((fs4 hx hr).mono (m := 30) (by omega)).small
  have s3 := ((fs3 hx hr).mono (m := 30) (by omega)).small
  have s2 := ((fs2 hx hr).mono (m := 30) (by omega)).small
  have s1 := ((fs1 hx hr).mono (m := 30) (by omega)).small
  refine new_ok h fun k1 w1 h1 => ldI_ok (cell_blk h1 (i := 0) rfl) <| arith_u8 <| ldI_ok (cell_blk h1 (i := 1) rfl) <| arith_u8 <| ldI_ok (cell_blk h1 (i := 2) rfl) <| arith_u8 <| new_ok h1 fun k8 w2 h2 => ?_
  rw [show x.kd % 256 = x.kd by omega, show x.fr % 256 = x.fr by omega, show x.to % 256 = x.to by omega] at h2
  have h2 : Sat w₀ (blk k8 (by8 [x.kd, x.fr, x.to]).toArray 5 * (blk k1 (pkF x (.slice p x.rs.length c)) T_api_Packet * F)) w2 := h2
  have g0 : Gives (blk k8 (by8 [x.kd, x.fr, x.to]).toArray 5 * (blk k1 (pkF x (.slice p x.rs.length c)) T_api_Packet * F)) 1 (some ⟨k8, 0, none⟩) 3 (by8 [x.kd, x.fr, x.to]) := Gives.left (Gives.ob (l := 3) rfl)
  refine ldI_ok (cell_blk h2.right (i := 3) rfl) <| call_mono (tenonref05_Num_ok (size := 8) h2 g0 rfl hx.sq.1 hx.sq.2 (by omega)) ?_
  rintro _ w3 ⟨q3, d3, rfl, h3⟩
  have e1 : [x.kd, x.fr, x.to] ++ form [x.kd, x.fr, x.to].length x.sq 8 = encN (A1 x) [] := by rw [A1, encN_snoc, encA0 hr]
  rw [e1] at h3 ⊢
  have h3 := (h3.perm (B := blk k8 (by8 [x.kd, x.fr, x.to]).toArray 5 * (own T_uint8 1 q3 (encN (A1 x) []).length d3 (by8 (encN (A1 x) [])) * (blk k1 (pkF x (.slice p x.rs.length c)) T_api_Packet * F))) (by ac_rfl)).right
  have cc : ∀ {w : World} {A : HP} {v : Value}, Sat w₀ (A * (blk k1 (pkF x (.slice p x.rs.length c)) T_api_Packet * F)) w → ∀ i, (pkF x (.slice p x.rs.length c))[i]? = some v → w.cell? ((⟨k1, 0, none⟩ : Addr).add i) = some v := fun h i e => cell_blk h.right e
  have tt : ∀ {w : World} {A : HP} {v : Value}, Sat w₀ (A * (blk k1 (pkF x (.slice p x.rs.length c)) T_api_Packet * F)) w → ∀ j, (tlL x (.slice p x.rs.length c))[j]? = some v → w.cell? ((⟨k1, 0, none⟩ : Addr).add (21 + j)) = some v := fun h j e => tlC h.right hx.ip j e
  have L1 : (encN (A1 x) []).length = 16 := len8 (L := 3) (by rw [encA0 hr]; rfl)
  -- the end
  have fin : ∀ {w : World} {q : Option Addr} {d m : Nat} {bs : List Int}, Sat w₀ (own T_uint8 1 q m d (by8 bs) * (blk k1 (pkF x (.slice p x.rs.length c)) T_api_Packet * F)) w → m = bs.length → bs = encP x → ∃ q' d', Value.slice q m d = .slice q' (encP x).length d' ∧ Sat w₀ (own T_uint8 1 q' (encP x).length d' (by8 (encP x)) * F) w := by
    rintro w q d m bs h rfl rfl
    exact ⟨q, d, rfl, (h.perm (B := blk k1 (pkF x (.slice p x.rs.length c)) T_api_Packet * (own T_uint8 1 q (encP x).length d (by8 (encP x)) * F)) (by ac_rfl)).right⟩
  have noR : x.kd ≠ 1 → encP x = encN (A7 x) [] := fun h => by rw [encP, hone.2.1 h]; exact List.append_nil _
  refine asS_ok <| ldI_ok (cc h3 0 rfl) <| br_split (fun k1' => ?_) (fun k1' => ?_)
  · have k1' : x.kd = 1 := by simpa using k1'
    have a2 : A2 x = A1 x ++ [(x.cl, 8)] := by rw [A2, if_pos (by rw [k1']; rfl)]
    have a3 : A3 x = A2 x ++ x.ip.map (·, 1) := by rw [A3, if_pos (by rw [k1']; rfl)]
    have a4 : A4 x = A3 x ++ [(x.md, 1)] := by rw [A4, if_pos (by rw [k1']; rfl)]
    have a5 : A5 x = A4 x := by rw [A5, if_neg (by rw [k1']; decide)]
    have a6 : A6 x = A5 x ++ [(un x.n, 8)] := by rw [A6, if_pos (by rw [k1']; rfl)]
    have a7 : A7 x = A6 x ++ [((x.rs.length : Int), 8)] := by rw [A7, if_pos (by rw [k1']; rfl)]
    have hmd : 0 ≤ x.md ∧ x.md ≤ 7 := by omega
    have b3 : encN (A3 x) [] = encN (A2 x) [] ++ x.ip := by rw [a3, encN_append, encN_bytes hx.by_]
    have b4 : encN (A4 x) [] = encN (A3 x) [] ++ [x.md] := by rw [a4, encN_snoc, form_one (by omega) (by omega)]
    have L2 : (encN (A2 x) []).length = 24 := by rw [a2]; exact len8 (L := 16) L1
    have L3 : (encN (A3 x) []).length = 40 := by rw [b3, List.length_append, L2, hx.ip]
    have L4 : (encN (A4 x) []).length = 41 := by rw [b4, List.length_append, L3]; rfl
    have L6 : (encN (A6 x) []).length = 56 := by rw [a6, a5]; exact len8 (L := 41) L4
    have L7 : (encN (A7 x) []).length = 64 := by rw [a7]; exact len8 (L := 56) L6
    refine ldI_ok (cc h3 4 rfl) <| call_mono (rn h3 rfl hx.cl.1 hx.cl.2 (by omega)) ?_
    rw [← a2]
    rintro _ w4 ⟨q4, d4, rfl, h4⟩
    refine asS_ok <| slc5 <| ra h4 rfl (rdIp h4.right hx.ip) (by omega) fun q5 d5 w5 h5 => ?_
    rw [← b3] at h5 ⊢
    refine ldI_ok (tt h5 0 rfl) <| arith_u8 <| new_ok h5 fun k20 w6 h6 => ?_
    rw [show x.md % 256 = x.md by omega] at h6
    have r6 : Rd w6 1 (some ⟨k20, 0, none⟩) 1 (by8 [x.md]) := Sat.rd_ob (sz := 1) (l := 1) h6.left rfl
    refine ra h6.p1 rfl r6 (by omega) fun q7 d7 w7 h7 => ?_
    rw [← b4] at h7 ⊢
    have h7 := h7.p1.right
    refine ldI_ok (tt h7 1 rfl) <| arith_un <| call_mono (rn h7 rfl hun.1 hun.2 (by omega)) ?_
    rw [← a5, ← a6]
    rintro _ w8 ⟨q8, d8, rfl, h8⟩
    refine asS_ok <| ldS_ok (tt h8 3 rfl) <| arith_u64 (by omega) (by omega) <| call_mono (rn h8 rfl (by omega) (by omega) (by omega)) ?_
    rw [← a7]
    rintro _ w9 ⟨q9, d9, rfl, h9⟩
    refine asS_ok <| ldS_ok (tt h9 3 rfl) <| br_split (fun b1 => ?_) (fun b1 => ?_)
    · have b1 : (x.rs.length : Int) = 1 := by simpa using b1
      obtain ⟨r, hrs⟩ : ∃ r, x.rs = [r] := List.length_eq_one_iff.1 (by omega)
      have hri : x.rs[(0 : Int).toNat]? = some r := by rw [hrs]; rfl
      have g := gx _ _ h9.right.right
      refine ldS_ok (tt h9 3 rfl) <| idx_ok g (by omega) (by omega) fun a ha => rd_refs g ha hri <| call_mono (tenonref07_Encode_ok h9 r.2 (Gives.left Gives.own) (by omega) (by omega)) ?_
      rintro _ w10 ⟨q10, d10, rfl, h10⟩
      refine asS_ok <| fin (bs := encP x) (h10.perm (B := own T_uint8 1 q9 (encN (A7 x) []).length d9 (by8 (encN (A7 x) [])) * (own T_uint8 1 q10 ((encN (A7 x) []).length + 64) d10 (by8 (encP x)) * (blk k1 (pkF x (.slice p x.rs.length c)) T_api_Packet * F))) ?_).right ?_ rfl
      · have e : encN (A7 x) [] ++ encL r.1 = encP x := by
          rw [encP, hrs]
          show _ = _ ++ (encL r.1 ++ [])
          rw [List.append_nil]
        rw [e]
        ac_rfl
      · rw [encP, List.length_append, encR_len]
        omega
    · have b1 : ¬ (x.rs.length : Int) = 1 := by simpa using b1
      have hrs : x.rs = [] := List.eq_nil_of_length_eq_zero (by omega)
      exact fin h9 rfl (by rw [encP, hrs]; exact (List.append_nil _).symm)
  have k1' : x.kd ≠ 1 := by simpa using k1'
  have a7 : A7 x = A6 x := by rw [A7, if_neg (by simpa using k1')]
  refine br_split (fun k2 => ?_) (fun k2 => ?_)
  · have k2 : x.kd = 2 := by simpa using k2
    have a2 : A2 x = A1 x ++ [(x.cl, 8)] := by rw [A2, if_pos (by rw [k2]; rfl)]
    have a3 : A3 x = A2 x := by rw [A3, if_neg (by rw [k2]; decide)]
    have a4 : A4 x = A3 x := by rw [A4, if_neg (by rw [k2]; decide)]
    have a5 : A5 x = A4 x ++ [(x.cd, 1)] := by rw [A5, if_pos (by rw [k2]; rfl)]
    have a6 : A6 x = A5 x ++ [(un x.n, 8)] := by rw [A6, if_pos (by rw [k2]; rfl)]
    have hcd : 0 ≤ x.cd ∧ x.cd ≤ 20 := by omega
    have b5 : encN (A5 x) [] = encN (A2 x) [] ++ [x.cd] := by rw [a5, encN_snoc, form_one (by omega) (by omega), a4, a3]
    refine ldI_ok (cc h3 4 rfl) <| call_mono (rn h3 rfl hx.cl.1 hx.cl.2 (by omega)) ?_
    rw [← a2]
    rintro _ w4 ⟨q4, d4, rfl, h4⟩
    refine asS_ok <| ldI_ok (tt h4 2 rfl) <| arith_u8 <| new_ok h4 fun k20 w6 h6 => ?_
    rw [show x.cd % 256 = x.cd by omega] at h6
    have r6 : Rd w6 1 (some ⟨k20, 0, none⟩) 1 (by8 [x.cd]) := Sat.rd_ob (sz := 1) (l := 1) h6.left rfl
    refine ra h6.p1 rfl r6 (by omega) fun q7 d7 w7 h7 => ?_
    rw [← b5] at h7 ⊢
    have h7 := h7.p1.right
    refine ldI_ok (tt h7 1 rfl) <| arith_un <| call_mono (rn h7 rfl hun.1 hun.2 (by omega)) ?_
    rw [← a6, ← a7]
    rintro _ w8 ⟨q8, d8, rfl, h8⟩
    exact asS_ok <| fin h8 rfl (noR k1').symm
  have k2 : x.kd ≠ 2 := by simpa using k2
  have a2 : A2 x = A1 x := by rw [A2, if_neg (by simp [callB, k1', k2])]
  have two : x.kd = 3 ∨ x.kd = 4 → slc (some ((⟨k1, 0, none⟩ : Addr).add 5)) 16 1 0 ((16 : Int)) fun p47 l47 c47 => runsS Try.prog (Builtin.append_ #[T_sl_uint8, T_sl_uint8] T_sl_uint8 #[.slice q3 (encN (A1 x) []).length d3, .slice p47 l47 c47]) w3 fun p48 l48 c48 w15 => ldI .i64 ((⟨k1, 0, none⟩ : Addr).add 22) w15 fun n49 => arith .u64 n49 fun n50 => call Try.prog fn_tenonref05_Num #[.slice p48 l48 c48, .int .u64 n50, .int .i64 8] w15 fun v51 w16 => asS v51 fun p52 l52 c52 => ∃ q' d', Value.slice p52 l52 c52 = .slice q' (encP x).length d' ∧ Sat w₀ (own T_uint8 1 q' (encP x).length d' (by8 (encP x)) * F) w16 := by
    intro k34
    have a3 : A3 x = A2 x ++ x.ip.map (·, 1) := by rw [A3, if_pos (by rcases k34 with h | h <;> rw [h] <;> rfl)]
    have a4 : A4 x = A3 x := by rw [A4, if_neg (by simpa using k1')]
    have a5 : A5 x = A4 x := by rw [A5, if_neg (by simpa using k2)]
    have a6 : A6 x = A5 x ++ [(un x.n, 8)] := by rw [A6, if_pos (by rcases k34 with h | h <;> rw [h] <;> rfl)]
    have b3 : encN (A5 x) [] = encN (A1 x) [] ++ x.ip := by rw [a5, a4, a3, encN_append, encN_bytes hx.by_, a2]
    refine slc5 <| ra h3 rfl (rdIp h3.right hx.ip) (by omega) fun q5 d5 w5 h5 => ?_
    rw [← b3] at h5 ⊢
    refine ldI_ok (tt h5 1 rfl) <| arith_un <| call_mono (rn h5 rfl hun.1 hun.2 (by omega)) ?_
    rw [← a6, ← a7]
    rintro _ w8 ⟨q8, d8, rfl, h8⟩
    exact asS_ok <| fin h8 rfl (noR k1').symm
  refine br_split (fun k3 => ?_) (fun k3 => ?_)
  · exact br_true k3 (two (.inl (by simpa using k3)))
  have k3 : x.kd ≠ 3 := by simpa using k3
  refine br_split (fun k4 => two (.inr (by simpa using k4))) (fun k4 => ?_)
  have k4 : x.kd ≠ 4 := by simpa using k4
  have a3 : A3 x = A2 x := by rw [A3, if_neg (by simp [ipidB, k1', k3, k4])]
  have a4 : A4 x = A3 x := by rw [A4, if_neg (by simpa using k1')]
  have a5 : A5 x = A4 x := by rw [A5, if_neg (by simpa using k2)]
  have a6 : A6 x = A5 x := by rw [A6, if_neg (by simp [nB, k1', k2, k3, k4])]
  exact fin h3 rfl (by rw [noR k1', a7, a6, a5, a4, a3, a2])
end
end Go.Proofs.Ytkkfhceejhabeaa
