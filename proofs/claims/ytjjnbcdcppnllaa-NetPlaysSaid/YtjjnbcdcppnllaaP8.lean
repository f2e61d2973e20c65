
/- Packets: a form is one packet's, and no form goes on in another one. The document's example. No conditions. -/
import Derived.Test.YtjjnbcdcppnllaaP7
set_option linter.unusedVariables false
set_option linter.unusedSimpArgs false
set_option linter.unusedSectionVars false
set_option maxRecDepth 100000
namespace Go.Proofs.Ytjjnbcdcppnllaa
open Go.Sp Go.RowKit

theorem Pre.more {fs : List (Int × Int)} {bs t : List Int} (h : Pre fs bs) : Pre fs (bs ++ t) := by
  obtain ⟨t', rfl⟩ := h
  exact ⟨t' ++ t, by rw [List.append_assoc]⟩
theorem Pre.same {fs : List (Int × Int)} {n n' s : Int} {bs : List Int} {k k' : Nat} (h : Pre (fs ++ [(n, s)]) bs) (hf : Fs (fs ++ [(n, s)]) k) (h' : Pre (fs ++ [(n', s)]) bs) (hf' : Fs (fs ++ [(n', s)]) k') : n = n' := by
  have e1 := h.read hf
  rw [h'.read hf'] at e1
  simp only [Prod.mk.injEq] at e1
  exact e1.1.symm
theorem form_uniq {bs t t' : List Int} {y z : PK} (hy : PIn y) (ry : RightP y) (hz : PIn z) (rz : RightP z) (e : bs = encP y ++ t) (e' : bs = encP z ++ t') : y = z := by
  have P1 : Pre (A1 y) bs := e ▸ (pre1 y).more
  have P2 : Pre (A2 y) bs := e ▸ (pre2 y).more
  have P3 : Pre (A3 y) bs := e ▸ (pre3 y).more
  have P4 : Pre (A4 y) bs := e ▸ (pre4 y).more
  have P5 : Pre (A5 y) bs := e ▸ (pre5 y).more
  have P6 : Pre (A6 y) bs := e ▸ (pre6 y).more
  have P7 : Pre (A7 y) bs := e ▸ (pre7 y).more
  have Q1 : Pre (A1 z) bs := e' ▸ (pre1 z).more
  have Q2 : Pre (A2 z) bs := e' ▸ (pre2 z).more
  have Q3 : Pre (A3 z) bs := e' ▸ (pre3 z).more
  have Q4 : Pre (A4 z) bs := e' ▸ (pre4 z).more
  have Q5 : Pre (A5 z) bs := e' ▸ (pre5 z).more
  have Q6 : Pre (A6 z) bs := e' ▸ (pre6 z).more
  have Q7 : Pre (A7 z) bs := e' ▸ (pre7 z).more
  have f1 := fs1 hy ry
  have g1 := fs1 hz rz
  have f2 := fs2 hy ry
  have g2 := fs2 hz rz
  have f4 := fs4 hy ry
  have g4 := fs4 hz rz
  have f5 := fs5 hy ry
  have g5 := fs5 hz rz
  have f6 := fs6 hy ry
  have g6 := fs6 hz rz
  have f7 := fs7 hy ry
  have g7 := fs7 hz rz
  have F0 : Fs (([(y.kd, 1)] ++ [(y.fr, 1)]) ++ [(y.to, 1)]) 4 := f1.less
  have G0 : Fs (([(z.kd, 1)] ++ [(z.fr, 1)]) ++ [(z.to, 1)]) 4 := g1.less
  have P0 : Pre (([(y.kd, 1)] ++ [(y.fr, 1)]) ++ [(y.to, 1)]) bs := P1.less
  have Q0 : Pre (([(z.kd, 1)] ++ [(z.fr, 1)]) ++ [(z.to, 1)]) bs := Q1.less
  have kd : y.kd = z.kd := Pre.same (fs := []) P0.less.less F0.less.less Q0.less.less G0.less.less
  rw [← kd] at Q0 G0
  have fr : y.fr = z.fr := Pre.same P0.less F0.less Q0.less G0.less
  rw [← fr] at Q0 G0
  have to : y.to = z.to := Pre.same P0 F0 Q0 G0
  have a0 : A0 z = A0 y := by unfold A0; rw [kd, fr, to]
  have sq : y.sq = z.sq := by
    unfold A1 at P1 Q1 f1 g1
    rw [a0] at Q1 g1
    exact Pre.same P1 f1 Q1 g1
  have a1 : A1 z = A1 y := by unfold A1; rw [a0, sq]
  have cl : y.cl = z.cl := by
    by_cases h : callB y.kd = true
    · have h' : callB z.kd = true := by rw [← kd]; exact h
      rw [A2, if_pos h] at P2 f2
      rw [A2, if_pos h', a1] at Q2 g2
      exact Pre.same P2 f2 Q2 g2
    · have h : callB y.kd = false := by simpa using h
      rw [r_cl ry h, r_cl rz (by rw [← kd]; exact h)]
  have a2 : A2 z = A2 y := by unfold A2; rw [a1, cl, kd]
  have ip : y.ip = z.ip := by
    by_cases h : ipidB y.kd = true
    · have h' : ipidB z.kd = true := by rw [← kd]; exact h
      rw [A3, if_pos h] at P3
      rw [A3, if_pos h', a2] at Q3
      obtain ⟨s1, e1⟩ := P3
      obtain ⟨s2, e2⟩ := Q3
      rw [encN_append, encN_bytes hy.by_, List.append_assoc] at e1
      rw [encN_append, encN_bytes hz.by_, List.append_assoc] at e2
      have e3 := List.append_cancel_left (e1.symm.trans e2)
      exact (List.append_inj e3 (by rw [hy.ip, hz.ip])).1
    · have h : ipidB y.kd = false := by simpa using h
      rw [r_ip ry h, r_ip rz (by rw [← kd]; exact h)]
  have a3 : A3 z = A3 y := by unfold A3; rw [a2, ip, kd]
  have md : y.md = z.md := by
    by_cases h : (y.kd == 1) = true
    · have h' : (z.kd == 1) = true := by rw [← kd]; exact h
      rw [A4, if_pos h] at P4 f4
      rw [A4, if_pos h', a3] at Q4 g4
      exact Pre.same P4 f4 Q4 g4
    · have h : (y.kd == 1) = false := by simpa using h
      rw [r_md ry h, r_md rz (by rw [← kd]; exact h)]
  have a4 : A4 z = A4 y := by unfold A4; rw [a3, md, kd]
  have cd : y.cd = z.cd := by
    by_cases h : (y.kd == 2) = true
    · have h' : (z.kd == 2) = true := by rw [← kd]; exact h
      rw [A5, if_pos h] at P5 f5
      rw [A5, if_pos h', a4] at Q5 g5
      exact Pre.same P5 f5 Q5 g5
    · have h : (y.kd == 2) = false := by simpa using h
      rw [r_cd ry h, r_cd rz (by rw [← kd]; exact h)]
  have a5 : A5 z = A5 y := by unfold A5; rw [a4, cd, kd]
  have n : y.n = z.n := by
    by_cases h : nB y.kd = true
    · have h' : nB z.kd = true := by rw [← kd]; exact h
      rw [A6, if_pos h] at P6 f6
      rw [A6, if_pos h', a5] at Q6 g6
      have := Pre.same P6 f6 Q6 g6
      rw [← i64_un hy.n, ← i64_un hz.n, this]
    · have h : nB y.kd = false := by simpa using h
      rw [r_n ry h, r_n rz (by rw [← kd]; exact h)]
  have a6 : A6 z = A6 y := by unfold A6; rw [a5, n, kd]
  have oy := rs_one hy ry
  have oz := rs_one hz rz
  have rs : y.rs = z.rs := by
    by_cases h : (y.kd == 1) = true
    · have h' : (z.kd == 1) = true := by rw [← kd]; exact h
      have hl : (y.rs.length : Int) = z.rs.length := by
        rw [A7, if_pos h] at P7 f7
        rw [A7, if_pos h', a6] at Q7 g7
        exact Pre.same P7 f7 Q7 g7
      have a7 : A7 z = A7 y := by unfold A7; rw [a6, hl, kd]
      have e3 : encR y.rs ++ t = encR z.rs ++ t' := by
        have := e.symm.trans e'
        unfold encP at this
        rw [a7, List.append_assoc, List.append_assoc] at this
        exact List.append_cancel_left this
      cases hq : y.rs with
      | nil =>
        rw [hq] at hl
        exact (List.eq_nil_of_length_eq_zero (by simp at hl; omega)).symm
      | cons r rr =>
        have hrr : rr = [] := List.eq_nil_of_length_eq_zero (by have := oy.1; rw [hq, List.length_cons] at this; omega)
        subst hrr
        obtain ⟨r', hz'⟩ : ∃ r', z.rs = [r'] := List.length_eq_one_iff.1 (by rw [hq, List.length_cons, List.length_nil] at hl; omega)
        rw [hq, hz'] at e3
        have e4 : encL r.1 ++ t = encL r'.1 ++ t' := by simpa [encR] using e3
        have e5 := (List.append_inj e4 (by rw [encL_length r.2, encL_length r'.2])).1
        have d1 := decR_encL r.2 (oy.2.2 r (by rw [hq]; simp))
        have d2 := decR_encL r'.2 (oz.2.2 r' (by rw [hz']; simp))
        rw [e5, d2] at d1
        simp only [Prod.mk.injEq, and_true] at d1
        rw [hz', Subtype.ext d1]
    · have h : y.kd ≠ 1 := by simpa using h
      rw [oy.2.1 h, oz.2.1 (by rw [← kd]; exact h)]
  exact (pk_iff y z).2 ⟨kd, fr, to, sq, cl, ip, md, n, cd, rs⟩
theorem encP_inj {y z : PK} (hy : PIn y) (ry : RightP y) (hz : PIn z) (rz : RightP z) (e : encP y = encP z) : y = z :=
  form_uniq (bs := encP y) (t := []) (t' := []) hy ry hz rz (by simp) (by simp [e])
theorem encP_end {y z : PK} {t : List Int} (hy : PIn y) (ry : RightP y) (hz : PIn z) (rz : RightP z) (e : encP y = encP z ++ t) : t = [] := by
  have := form_uniq (bs := encP y) (t := []) (t' := t) hy ry hz rz (by simp) e
  subst this
  have := congrArg List.length e
  rw [List.length_append] at this
  exact List.eq_nil_of_length_eq_zero (by omega)
theorem encP_16 {x : PK} (hr : RightP x) : 16 ≤ (encP x).length := by
  have L1 : (encN (A1 x) []).length = 16 := len8 (L := 3) (by rw [encA0 hr]; rfl)
  obtain ⟨t, e⟩ := pre1 x
  rw [e, List.length_append]
  omega
/-! ### the document's example -/
def pkS : PK := ⟨5, 0, 1, 2, 0, z16, 0, 0, 0, []⟩
theorem pkS_in : PIn pkS := ⟨⟨by decide, by decide⟩, ⟨by decide, by decide⟩, ⟨by decide, by decide⟩, ⟨by decide, by decide⟩, ⟨by decide, by decide⟩, rfl, by decide, ⟨by decide, by decide⟩, ⟨by decide, by decide⟩, ⟨by decide, by decide⟩⟩
theorem pkS_right : RightP pkS := by decide
theorem pkS_enc : encP pkS = [5, 0, 1, 0, 0, 0, 0, 0, 2, 0, 0, 0, 0, 0, 0, 0] := by decide
end Go.Proofs.Ytjjnbcdcppnllaa
