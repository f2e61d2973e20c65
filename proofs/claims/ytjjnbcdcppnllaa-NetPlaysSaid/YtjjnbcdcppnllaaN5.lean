/- Acts of nets, as they come in; is there more than is looked at? No conditions. -/
import Derived.Test.YtjjnbcdcppnllaaN4
set_option linter.unusedVariables false
set_option linter.unusedSimpArgs false
set_option linter.unusedSectionVars false
set_option maxRecDepth 100000
namespace Go.Proofs.Ytjjnbcdcppnllaa
open Go.Sp Go.RowKit

structure NAct where
  kd : Int
  i : Int
  x : PK
  p : Option Addr
  l : Nat
  c : Nat
def acN (x : NAct) : Array Value := (.int .i64 x.kd :: .int .i64 x.i :: pkL x.x (.slice x.p x.l x.c)).toArray
theorem acN_size {x : NAct} (h : x.x.ip.length = 16) : (acN x).size = 27 := by simp [acN, pk_len h]
theorem acN_one (x : NAct) : ∀ u ∈ (acN x).toList, u.oneCell' = true := by
  intro u hu
  have hu : u ∈ .int .i64 x.kd :: .int .i64 x.i :: pkL x.x (.slice x.p x.l x.c) := by simpa [acN] using hu
  rcases List.mem_cons.1 hu with rfl | hu
  · rfl
  · rcases List.mem_cons.1 hu with rfl | hu
    · rfl
    · exact pk_one u (by simpa [pkF] using hu)
structure NActAt (w : World) (a : Addr) (x : NAct) : Prop where
  at_ : ∀ j, j < 27 → w.cell? (a.add j) = (acN x)[j]?
  rk : -9223372036854775808 ≤ x.kd ∧ x.kd ≤ 9223372036854775807
  ri : -9223372036854775808 ≤ x.i ∧ x.i ≤ 9223372036854775807
  pin : PIn x.x
  rd : Rd w 36 x.p x.l (x.x.rs.flatMap orC)
  len : x.l ≤ 9223372036854775807
structure NActs (w : World) (p : Option Addr) (l : Nat) (xs : List NAct) : Prop where
  len : xs.length = l
  ptr : 0 < l → ∃ a, p = some a
  all : ∀ a, p = some a → ∀ (i : Nat) (x : NAct), xs[i]? = some x → NActAt w (a.add (i * 27)) x
section
open Go.ChangeShapes Go.WideShapes Go.Deep
variable {H : Type} {enc : TypeId × Value → H} {W : World} {base : Nat}
theorem open_pk {l : List Value} {fuel : Nat} {y : DataW H × List MemPlace} (hl : l.length = 25) (h : DataW.trod enc Try.prog W 0 (fun _ => true) true fuel T_api_Packet l = some y) :
    ∃ x p ln c, l = pkL x (.slice p ln c) ∧ PIn x ∧ Rd W 36 p ln (x.rs.flatMap orC) ∧ ln ≤ 9223372036854775807 := by
  have hu := Try.underlying35
  match l, hl with
  | c0 :: c1 :: c2 :: c3 :: c4 :: rest, hl =>
    have hrl : rest.length = 20 := by simpa using hl
    obtain ⟨e0, h16⟩ : ∃ c, rest[16]? = some c := ⟨rest[16]'(by omega), by simp [hrl]⟩
    obtain ⟨e1, h17⟩ : ∃ c, rest[17]? = some c := ⟨rest[17]'(by omega), by simp [hrl]⟩
    obtain ⟨e2, h18⟩ : ∃ c, rest[18]? = some c := ⟨rest[18]'(by omega), by simp [hrl]⟩
    obtain ⟨e3, h19⟩ : ∃ c, rest[19]? = some c := ⟨rest[19]'(by omega), by simp [hrl]⟩
    obtain ⟨_, _, f0⟩ := field_cell hu h 0 rfl (by kernel_rfl) (v := c0) rfl
    obtain ⟨_, _, f1⟩ := field_cell hu h 1 rfl (by kernel_rfl) (v := c1) rfl
    obtain ⟨_, _, f2⟩ := field_cell hu h 2 rfl (by kernel_rfl) (v := c2) rfl
    obtain ⟨_, _, f3⟩ := field_cell hu h 3 rfl (by kernel_rfl) (v := c3) rfl
    obtain ⟨_, _, f4⟩ := field_cell hu h 4 rfl (by kernel_rfl) (v := c4) rfl
    obtain ⟨_, _, f5⟩ := field_part hu h 5 (n := 16) rfl (by kernel_rfl)
    obtain ⟨_, _, f6⟩ := field_cell hu h 6 rfl (by kernel_rfl) (v := e0) (by simpa using h16)
    obtain ⟨_, _, f7⟩ := field_cell hu h 7 rfl (by kernel_rfl) (v := e1) (by simpa using h17)
    obtain ⟨_, _, f8⟩ := field_cell hu h 8 rfl (by kernel_rfl) (v := e2) (by simpa using h18)
    obtain ⟨_, _, f9⟩ := field_cell hu h 9 rfl (by kernel_rfl) (v := e3) (by simpa using h19)
    obtain ⟨m0, g0, _, w0⟩ := DataW.trod_int Try.underlying3 f0
    obtain ⟨m1, g1, _, w1⟩ := DataW.trod_int Try.underlying3 f1
    obtain ⟨m2, g2, _, w2⟩ := DataW.trod_int Try.underlying3 f2
    obtain ⟨m3, g3, _, w3⟩ := DataW.trod_int Try.underlying30 f3
    obtain ⟨m4, g4, _, w4⟩ := DataW.trod_int Try.underlying30 f4
    obtain ⟨bs, g5, lb, rb⟩ := open_bytes16 f5
    obtain ⟨m6, g6, _, w6⟩ := DataW.trod_int Try.underlying3 f6
    obtain ⟨m7, g7, _, w7⟩ := DataW.trod_int Try.underlying2 f7
    obtain ⟨m8, g8, _, w8⟩ := DataW.trod_int Try.underlying26 f8
    have hf : Try.prog.info? T_api_Objref = some (Try.prog.types[T_api_Objref]'(of_decide_eq_true (by kernel_rfl))) := by kernel_rfl
    obtain ⟨p, ln, c, zs, e, hzl, hlc, hcm, hp, hz⟩ := open_elems (sz := 36) (R := fun a (x : OR) => ∀ j, j < 36 → W.cell? (a.add j) = (orC x)[j]?) Try.underlying33 hf (by kernel_rfl) f9 (fun a cs n y hcl hat htr => by
      obtain ⟨x, e, hx⟩ := open_ORc htr hcl
      refine ⟨⟨x, hx⟩, fun j hj => ?_⟩
      rw [hat j hj, e]
      simp [orC, orF])
    simp only [List.cons.injEq, and_true] at g0 g1 g2 g3 g4 g6 g7 g8
    subst g0 g1 g2 g3 g4 g6 g7 g8 e
    have r0 := wf_range w0
    have r1 := wf_range w1
    have r2 := wf_range w2
    have r3 := wf_range w3
    have r4 := wf_range w4
    have r6 := wf_range w6
    have r7 := wf_range w7
    have r8 := wf_range w8
    simp [IntKind.min, IntKind.max, IntKind.signed, IntKind.bits] at r0 r1 r2 r3 r4 r6 r7 r8
    refine ⟨⟨m0, m1, m2, m3, m4, bs, m6, m7, m8, zs⟩, p, ln, c, ?_, ⟨r0, r1, r2, r3, r4, lb, rb, r6, r7, r8⟩, ⟨by rw [flatLen orC_len, hzl], hp, fun a ea j u hj => ?_⟩, by simp only [maxLen] at hcm; omega⟩
    · show _ = _ :: _ :: _ :: _ :: _ :: (by8 bs ++ _)
      have g5' : rest.take 16 = by8 bs := g5
      have hd : rest.drop 16 = [.int .i64 m6, .int .i64 m7, .int .i64 m8, .slice p ln c] := by
        apply List.ext_getElem?
        intro j
        rw [List.getElem?_drop]
        match j with
        | 0 => exact h16
        | 1 => exact h17
        | 2 => exact h18
        | 3 => exact h19
        | j + 4 => rw [List.getElem?_eq_none (by omega), List.getElem?_eq_none (by simp)]
      have er : rest = by8 bs ++ [.int .i64 m6, .int .i64 m7, .int .i64 m8, .slice p ln c] := by rw [← g5', ← hd, List.take_append_drop]
      rw [er]
      rfl
    · have hjl := (List.getElem?_eq_some_iff.1 hj).1
      rw [flatLen orC_len] at hjl
      have hi : j / 36 < zs.length := Nat.div_lt_of_lt_mul (by rw [Nat.mul_comm]; exact hjl)
      have hx : zs[j / 36]? = some zs[j / 36] := by simp [hi]
      have hm : j % 36 < 36 := Nat.mod_lt _ (by decide)
      have e : j = j / 36 * 36 + j % 36 := by omega
      have h1 := hz a ea (j / 36) _ hx (j % 36) hm
      rw [Sp.add_add, ← e] at h1
      rw [h1, ← flatGet orC_len hx hm, ← e]
      exact hj
theorem open_NActs {v : Value} {d : DataW H} {ps : List MemPlace} (hv : Value.okWide Try.prog W .any base T_sl_tenonlaw23_Act v) (h : DataW.Trod enc Try.prog W 0 (fun _ => true) true T_sl_tenonlaw23_Act v d ps) :
    ∃ p l c xs, v = .slice p l c ∧ l ≤ 9223372036854775807 ∧ NActs W p l xs := by
  obtain ⟨p0, l0, c0, rfl⟩ := okWide_slice Try.underlying22 hv
  obtain ⟨fuel, h⟩ := h
  have hf : Try.prog.info? T_tenonlaw23_Act = some (Try.prog.types[T_tenonlaw23_Act]'(of_decide_eq_true (by kernel_rfl))) := by kernel_rfl
  obtain ⟨p, l, c, zs, e, hzl, hlc, hc, hp, hz⟩ := open_elems (sz := 27) (R := fun a (x : NAct) => NActAt W a x) Try.underlying22 hf (by kernel_rfl) h (fun a cs n y hcl hat htr => by
    match cs, hcl with
    | c0 :: c1 :: rest, hcl =>
      have hrl : rest.length = 25 := by simpa using hcl
      have hu := Try.underlying37
      obtain ⟨_, _, f0⟩ := field_cell hu htr 0 rfl (by kernel_rfl) (v := c0) rfl
      obtain ⟨_, _, f1⟩ := field_cell hu htr 1 rfl (by kernel_rfl) (v := c1) rfl
      obtain ⟨_, _, f2⟩ := field_part hu htr 2 (n := 25) rfl (by kernel_rfl)
      obtain ⟨m0, h0, _, w0⟩ := DataW.trod_int Try.underlying3 f0
      obtain ⟨m1, h1, _, w1⟩ := DataW.trod_int Try.underlying3 f1
      simp only [List.cons.injEq, and_true] at h0 h1
      subst h0 h1
      have r0 := wf_range w0
      have r1 := wf_range w1
      simp [IntKind.min, IntKind.max, IntKind.signed, IntKind.bits] at r0 r1
      have f2 : DataW.trod enc Try.prog W 0 (fun _ => true) true _ T_api_Packet (rest.take 25) = some _ := f2
      rw [List.take_of_length_le (by omega)] at f2
      obtain ⟨x, q, ln, c, rfl, hx, hrd, hln⟩ := open_pk hrl f2
      exact ⟨⟨m0, m1, x, q, ln, c⟩, fun j hj => by rw [hat j hj, acN]; simp, r0, r1, hx, hrd, hln⟩)
  cases e
  exact ⟨p0, l0, c0, zs, rfl, by simp only [maxLen] at hc; omega, ⟨hzl, hp, fun a e i x hx => hz a e i x hx⟩⟩
end
section
variable {w₀ w W : World} {F : HP} {b : Nat} {M : NM} {n : Int}
/-- The act at a place, read. -/
theorem NActs.idx {p : Option Addr} {l : Nat} {xs : List NAct} {i : Int} {K : Addr → Prop} (h : NActs W p l xs) (hs : Sat w₀ (old W) w) (h0 : 0 ≤ i) (h1 : i < (l : Int))
    (hk : ∀ a x, xs[i.toNat]? = some x → NActAt W a x → (∀ {K : Array Value → Prop}, K (acN x) → ldA a 27 w K) → w.cell? ((a.add 2).add 24) = some (.slice x.p x.l x.c) → K a) : idx p l i 27 K := by
  obtain ⟨a, rfl⟩ := h.ptr (by omega)
  have hi : i.toNat < xs.length := by rw [h.len]; omega
  have hx : xs[i.toNat]? = some xs[i.toNat] := by simp [hi]
  have hA := h.all a rfl i.toNat _ hx
  have hsz := acN_size (x := xs[i.toNat]) hA.pin.ip
  refine ⟨⟨h0, h1⟩, hk _ _ hx hA (fun hK => ldA_ok hsz (fun j hj => by
    have hj5 : j < (acN xs[i.toNat]).size := by omega
    exact hs.old_cell ((hA.at_ j hj).trans (Array.getElem?_eq_getElem hj5)) |>.trans (Array.getElem?_eq_getElem hj5).symm) hK) ?_⟩
  rw [Sp.add_add]
  refine hs.old_cell ((hA.at_ 26 (by decide)).trans ?_)
  have e := pk_tl (x := (xs[i.toNat]).x) (v := .slice (xs[i.toNat]).p (xs[i.toNat]).l (xs[i.toNat]).c) hA.pin.ip 3
  simp only [acN, pkF, List.getElem?_toArray] at e ⊢
  exact e
theorem great_ok {p : Option Addr} {l c : Nat} {xs : List NAct} (hx : NActs W p l xs) (hl : l ≤ 9223372036854775807) (h : Sat w₀ (old W) w) :
    call Try.prog fn_tenonlaw23_great #[.slice p l c] w fun v w' => w' = w ∧ ∃ g, v = .bool g ∧ (g = false → ∀ i x, i < 200 → xs[i]? = some x → x.l ≤ 5) := by
  apply tenonlaw23_great_call
  unfold tenonlaw23_great
  refine ⟨fun n w' m => 0 ≤ n ∧ n ≤ 200 ∧ m = (200 - n).toNat ∧ w' = w ∧ ∀ i x, i < n.toNat → xs[i]? = some x → x.l ≤ 5, ⟨_, by decide, by decide, rfl, rfl, fun i x hi => absurd hi (by simp)⟩, ?_⟩
  rintro u n w1 m ⟨n0, n200, rfl, rfl, hall⟩
  refine br_dec (fun hlt => br_dec (fun hlt2 => ?_) (fun hge => ⟨rfl, false, rfl, fun _ i x hi => hall i x (by omega)⟩)) (fun hge => ⟨rfl, false, rfl, fun _ i x hi hxi => hall i x (by have := (List.getElem?_eq_some_iff.1 hxi).1; rw [hx.len] at this; omega) hxi⟩)
  refine hx.idx h n0 hlt fun a x hxi hA ld hc => ldS_ok hc <| br_dec (fun _ => ⟨rfl, true, rfl, fun e => by cases e⟩) (fun hle => arith_i64 (by omega) (by omega) ⟨_, ?_, by omega, by omega, rfl, rfl, fun i y hi hy => ?_⟩)
  · omega
  · by_cases e : i = n.toNat
    · subst e
      rw [hxi] at hy
      cases hy
      omega
    · exact hall i y (by omega) hy
/-! ### what stays so -/
theorem NOk.mono {m : Int} (h : NOk M n) (hm : n ≤ m) : NOk M m := ⟨h.m0, h.m1, h.len, h.row, fun r k hk => by have := h.sent r k hk; omega⟩
theorem NOk.send {x : PK} (hM : NOk M n) (hx : PIn x) (h0 : 0 ≤ n) (hn : n ≤ 10000) : NOk (sendM M x).1 (n + 1) ∧ (sendM M x).1.most = M.most ∧ (((sendM M x).2.2 = 0 ∧ (sendM M x).1.row.length = M.row.length + 1) ∨ ((sendM M x).2.2 ≠ 0 ∧ (sendM M x).1.row.length = M.row.length)) := by
  unfold sendM
  split
  · exact ⟨hM.mono (by omega), rfl, .inr ⟨by simp, rfl⟩⟩
  · rename_i hr
    have hr : RightP (sqP x (nx M (x.fr, x.to))) := Decidable.not_not.1 hr
    split
    · exact ⟨hM.mono (by omega), rfl, .inr ⟨by simp, rfl⟩⟩
    · rename_i hl
      have hseq : 0 ≤ (M.sent (x.fr, x.to)).getD 0 ∧ (M.sent (x.fr, x.to)).getD 0 ≤ n := by
        cases hs : M.sent (x.fr, x.to) with
        | none => simp; omega
        | some k => have := hM.sent _ _ hs; simp only [Option.getD_some]; omega
      have hnx : 1 ≤ nx M (x.fr, x.to) ∧ nx M (x.fr, x.to) ≤ n + 1 := by unfold nx; omega
      refine ⟨⟨hM.m0, hM.m1, ?_, fun y hy => ?_, fun r k hk => ?_⟩, rfl, .inl ⟨rfl, by simp⟩⟩
      · dsimp only; rw [List.length_append, List.length_singleton]; omega
      · rcases List.mem_append.1 hy with hy | hy
        · exact hM.row y hy
        · rw [List.mem_singleton] at hy
          subst hy
          exact ⟨⟨hx.kd, hx.fr, hx.to, ⟨by show 0 ≤ nx M (x.fr, x.to); omega, by show nx M (x.fr, x.to) ≤ 18446744073709551615; omega⟩, hx.cl, hx.ip, hx.by_, hx.md, hx.n, hx.cd⟩, hr⟩
      · dsimp only at hk
        unfold upd at hk
        split at hk
        · cases hk
          omega
        · have := hM.sent r k hk; omega
theorem NOk.dbl {i : Int} (hM : NOk M n) : NOk (dblM M i).1 n ∧ (dblM M i).1.most = M.most ∧ (((dblM M i).2 = 0 ∧ (dblM M i).1.row.length = M.row.length + 1) ∨ ((dblM M i).2 ≠ 0 ∧ (dblM M i).1.row.length = M.row.length)) := by
  unfold dblM
  split
  · rename_i x hx
    split
    · exact ⟨hM, rfl, .inr ⟨by simp, rfl⟩⟩
    · rename_i hl
      refine ⟨⟨hM.m0, hM.m1, ?_, fun y hy => ?_, hM.sent⟩, rfl, .inl ⟨rfl, by simp⟩⟩
      · dsimp only; rw [List.length_append, List.length_singleton]; omega
      · rcases List.mem_append.1 hy with hy | hy
        · exact hM.row y hy
        · rw [List.mem_singleton] at hy
          subst hy
          exact hM.row _ (List.mem_of_getElem? hx)
  · exact ⟨hM, rfl, .inr ⟨by simp, rfl⟩⟩
theorem NOk.lose_len {i : Int} (hM : NOk M n) : (loseM M i).1.most = M.most ∧ (((loseM M i).2.2 = 0 ∧ (loseM M i).1.row.length + 1 = M.row.length) ∨ ((loseM M i).2.2 ≠ 0 ∧ (loseM M i).1.row.length = M.row.length)) := by
  by_cases he : M.row = []
  · rw [loseM_none he]; exact ⟨rfl, .inr ⟨by simp, rfl⟩⟩
  · obtain ⟨x, hx, hlo⟩ := loseM_some (i := i) he
    rw [hlo]
    have hlt := (List.getElem?_eq_some_iff.1 hx).1
    exact ⟨rfl, .inl ⟨rfl, by dsimp only; rw [List.length_eraseIdx, if_pos hlt]; omega⟩⟩
theorem NOk.del {i : Int} (hM : NOk M n) : NOk (delM' M i).1 n ∧ PIn (delM' M i).2.1 ∧ (delM' M i).1.most = M.most ∧ (((delM' M i).2.2.2 = 0 ∧ (delM' M i).1.row.length + 1 = M.row.length) ∨ ((delM' M i).2.2.2 ≠ 0 ∧ (delM' M i).1.row.length = M.row.length ∧ (delM' M i).2.2.1 = false)) := by
  obtain ⟨h1, h2⟩ := hM.lose (i := i)
  obtain ⟨h3, h4⟩ := hM.lose_len (i := i)
  unfold delM'
  generalize loseM M i = z at h1 h2 h3 h4
  split
  · rename_i he
    rcases h4 with h4 | h4
    · exact ⟨⟨h1.m0, h1.m1, h1.len, h1.row, h1.sent⟩, h2, h3, .inl ⟨rfl, h4.2⟩⟩
    · exact absurd he h4.1
  · rename_i he
    rcases h4 with h4 | h4
    · exact absurd h4.1 he
    · exact ⟨h1, h2, h3, .inr ⟨he, h4.2, rfl⟩⟩
end
end Go.Proofs.Ytjjnbcdcppnllaa
