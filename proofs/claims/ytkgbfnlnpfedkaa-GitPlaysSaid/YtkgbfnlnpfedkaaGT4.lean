/- GitNil, GitKeeps: the walks. No conditions. -/
import Derived.Test.YtkgbfnlnpfedkaaGT3
set_option linter.unusedVariables false
set_option linter.unusedSimpArgs false
set_option maxRecDepth 100000
namespace Go.Proofs.Ytkgbfnlnpfedkaa
open Go.Sp Go.RowKit

/-! ### acts -/
structure GAct where
  kind : Int
  h : Int
  ow : Int
  x : OR
  raw : Int
def acL (x : GAct) : List Value := [.int .i64 x.kind, .int .i64 x.h, .int .i64 x.ow] ++ (orC x.x ++ [.int .u64 x.raw])
theorem acL_len (x : GAct) : (acL x).length = 40 := by simp [acL, orC_len]
theorem acL_one (x : GAct) : ∀ u ∈ acL x, u.oneCell' = true := by
  intro u hu
  simp only [acL, List.mem_append, List.mem_cons, List.not_mem_nil, or_false] at hu
  rcases hu with (rfl | rfl | rfl) | hu | rfl
  · rfl
  · rfl
  · rfl
  · exact orC_one _ u hu
  · rfl
theorem acL_or (x : GAct) : ((acL x).drop 3).take 36 = orC x.x := by
  show (orC x.x ++ [Value.int .u64 x.raw]).take 36 = _
  rw [List.take_append_of_le_length (by rw [orC_len]; exact Nat.le_refl _), List.take_of_length_le (by rw [orC_len]; exact Nat.le_refl _)]
theorem acL_raw (x : GAct) : (acL x)[39]? = some (.int .u64 x.raw) := by
  rw [acL, List.getElem?_append_right (by simp), List.getElem?_append_right (by simp [orC_len])]
  simp [orC_len]
theorem acA_or (x : GAct) : (acL x).toArray.extract 3 (3 + 36) = orF x.x.1 := by
  apply Array.ext'
  rw [Array.toList_extract, List.extract_eq_take_drop]
  show ((acL x).drop 3).take 36 = _
  rw [acL_or]
  rfl
structure ActIn (x : GAct) : Prop where
  kind : -9223372036854775808 ≤ x.kind ∧ x.kind ≤ 9223372036854775807
  h : -9223372036854775808 ≤ x.h ∧ x.h ≤ 9223372036854775807
  ow : -9223372036854775808 ≤ x.ow ∧ x.ow ≤ 9223372036854775807
  raw : 0 ≤ x.raw ∧ x.raw ≤ 18446744073709551615
structure ActAt (w : World) (a : Addr) (x : GAct) : Prop extends ActIn x where
  cells : ∀ j, j < 40 → w.cell? (a.add j) = (acL x)[j]?
structure Acts (w : World) (p : Option Addr) (l : Nat) (xs : List GAct) : Prop where
  len : xs.length = l
  ptr : 0 < l → ∃ a, p = some a
  at_ : ∀ a, p = some a → ∀ i x, xs[i]? = some x → ActAt w (a.add (i * 40)) x
theorem ActAt.old {w₀ w W : World} {a : Addr} {x : GAct} (h : ActAt W a x) (hs : Sat w₀ (old W) w) : ActAt w a x :=
  ⟨h.toActIn, fun j hj => by
    have e : (acL x)[j]? = some ((acL x)[j]'(by rw [acL_len]; exact hj)) := by simp [acL_len, hj]
    rw [e]
    exact hs.old_cell ((h.cells j hj).trans e)⟩
theorem Acts.idx {w₀ w W : World} {p : Option Addr} {l : Nat} {xs : List GAct} {i : Int} {K : Addr → Prop} (h : Acts W p l xs) (hs : Sat w₀ (old W) w) (h0 : 0 ≤ i) (h1 : i < (l : Int))
    (hk : ∀ a x, xs[i.toNat]? = some x → ActAt w a x → K a) : Sp.idx p l i 40 K := by
  obtain ⟨a, rfl⟩ := h.ptr (by omega)
  have hlt : i.toNat < xs.length := by rw [h.len]; omega
  have hx := h.at_ a rfl i.toNat xs[i.toNat] (by simp [hlt])
  exact ⟨⟨h0, h1⟩, hk _ _ (by simp [hlt]) (hx.old hs)⟩
theorem Acts.idx' {w₀ w W : World} {p : Option Addr} {l : Nat} {xs : List GAct} {i : Int} {x : GAct} {K : Addr → Prop} (h : Acts W p l xs) (hs : Sat w₀ (old W) w) (h0 : 0 ≤ i) (h1 : i < (l : Int)) (hx : xs[i.toNat]? = some x)
    (hk : ∀ a, ActAt w a x → K a) : Sp.idx p l i 40 K :=
  h.idx hs h0 h1 fun a y hy ha => by
    obtain rfl := Option.some.inj (hx.symm.trans hy)
    exact hk a ha
theorem ActAt.ld {w : World} {a : Addr} {x : GAct} {K : Array Value → Prop} (h : ActAt w a x) (hk : K (acL x).toArray) : ldA a 40 w K :=
  ldA_ok (by simp [acL_len]) (fun j hj => by rw [h.cells j hj]; simp) hk
theorem ActAt.ldx {w : World} {a : Addr} {x : GAct} {K : Array Value → Prop} (h : ActAt w a x) (hk : K (orF x.x.1)) : ldA (a.add 3) 36 w K := by
  refine ldA_ok (orF_sz x.x) (fun j hj => ?_) hk
  rw [add_add, h.cells _ (by omega), ← orC_arr, ← acL_or x, List.getElem?_toArray, List.getElem?_take, if_pos hj, List.getElem?_drop]
section
open Go.ChangeShapes Go.WideShapes Go.Deep
variable {H : Type} {enc : TypeId × Value → H} {W : World} {base : Nat}
theorem open_Acts {v : Value} {d : DataW H} {ps : List MemPlace} (hv : Value.okWide Try.prog W .any base T_sl_tenonlaw19_Act v) (h : DataW.Trod enc Try.prog W 0 (fun _ => true) true T_sl_tenonlaw19_Act v d ps) :
    ∃ p l c xs, v = .slice p l c ∧ l ≤ 9223372036854775807 ∧ Acts W p l xs := by
  obtain ⟨p0, l0, c0, rfl⟩ := okWide_slice Try.underlying22 hv
  obtain ⟨fuel, h⟩ := h
  have hf : Try.prog.info? T_tenonlaw19_Act = some (Try.prog.types[T_tenonlaw19_Act]'(of_decide_eq_true (by kernel_rfl))) := by kernel_rfl
  obtain ⟨p, l, c, zs, e, hzl, hlc, hc, hp, hz⟩ := open_elems (sz := 40) (R := fun a (x : GAct) => ActAt W a x) Try.underlying22 hf (by kernel_rfl) h (fun a cs n y hcl hat htr => by
    match cs, hcl with
    | c0 :: c1 :: c2 :: rest, hcl =>
      have hu := Try.underlying37
      have hrl : rest.length = 37 := by simpa using hcl
      obtain ⟨c39, h39⟩ : ∃ c, rest[36]? = some c := ⟨rest[36]'(by omega), by simp [hrl]⟩
      obtain ⟨_, _, f0⟩ := field_cell hu htr 0 rfl (by kernel_rfl) (v := c0) rfl
      obtain ⟨_, _, f1⟩ := field_cell hu htr 1 rfl (by kernel_rfl) (v := c1) rfl
      obtain ⟨_, _, f2⟩ := field_cell hu htr 2 rfl (by kernel_rfl) (v := c2) rfl
      obtain ⟨_, _, f3⟩ := field_part hu htr 3 (n := 36) rfl (by kernel_rfl)
      obtain ⟨_, _, f4⟩ := field_cell hu htr 4 rfl (by kernel_rfl) (v := c39) (by simpa using h39)
      obtain ⟨m0, h0, _, w0⟩ := DataW.trod_int Try.underlying3 f0
      obtain ⟨m1, h1, _, w1⟩ := DataW.trod_int Try.underlying3 f1
      obtain ⟨m2, h2, _, w2⟩ := DataW.trod_int Try.underlying3 f2
      obtain ⟨m4, h4, _, w4⟩ := DataW.trod_int Try.underlying27 f4
      obtain ⟨x, ex, hx⟩ := open_ORc f3 (by simp [hrl])
      simp only [List.cons.injEq, and_true] at h0 h1 h2 h4
      subst h0 h1 h2 h4
      have r0 := wf_range w0
      have r1 := wf_range w1
      have r2 := wf_range w2
      have r4 := wf_range w4
      simp [IntKind.min, IntKind.max, IntKind.signed, IntKind.bits] at r0 r1 r2 r4
      have e1 : rest.take 36 = orC ⟨x, hx⟩ := ex
      have e2 : rest.drop 36 = [.int .u64 m4] := by
        obtain ⟨hl, he⟩ := List.getElem?_eq_some_iff.1 h39
        rw [List.drop_eq_getElem_cons hl, he, List.drop_of_length_le (by omega)]
      refine ⟨⟨m0, m1, m2, ⟨x, hx⟩, m4⟩, ⟨r0, r1, r2, r4⟩, fun j hj => ?_⟩
      rw [hat j hj]
      congr 1
      show _ = Value.int .i64 m0 :: Value.int .i64 m1 :: Value.int .i64 m2 :: (orC ⟨x, hx⟩ ++ [Value.int .u64 m4])
      rw [← e1, ← e2, List.take_append_drop])
  cases e
  exact ⟨p0, l0, c0, zs, rfl, by simp only [maxLen] at hc; omega, ⟨hzl, hp, fun a e i x hx => hz a e i x hx⟩⟩
end

/-! ### the document's example -/
theorem gput_eq {s : AS GE} {o : Int} {x : OR} (h : x.1.fl ≠ 0) (hr : rightB x.1 = true) : gput s o x = put s (o, x) := by simp [gput, h, hr]
theorem orS_put {s : AS GE} {o : Int} : gput s o orS = put s (o, orS) := gput_eq (by decide) (by decide)
theorem tenonlaw19_awake_ok {w₀ w : World} {F : HP} (h : Sat w₀ F w) : call Try.prog fn_tenonlaw19_awake #[] w fun v w' => v = .bool true ∧ Sat w₀ F w' := by
  apply tenonlaw19_awake_call
  unfold tenonlaw19_awake
  refine call_mono (git_New_ok (most := 2) h (by decide) (by decide)) ?_
  rintro _ w1 ⟨b, a, rfl, h1⟩
  have k1 : AOk (⟨2, 1, [], [], 0⟩ : AS GE) := AOk.start (by decide) (by decide) (by decide) (by decide)
  refine ⟨_, _, rfl, call_mono (some_ok h1) ?_⟩
  rintro _ w2 ⟨rfl, h2⟩
  refine asA_ok <| call_mono (git_Put_ok (x := orS) h2 k1) ?_
  rw [orS_put]
  have k2 := k1.put ((1, orS) : GE)
  have e2 : put (⟨2, 1, [], [], 0⟩ : AS GE) (1, orS) = (⟨2, 1, [⟨(1, orS), 1, 1⟩], [], 1⟩, 4294967297, 0) := rfl
  rw [e2] at k2 ⊢
  rintro _ w3 ⟨rfl, h3⟩
  refine ⟨_, _, rfl, call_mono (git_Get_ok (h := 4294967297) h3 k2 (by decide) (by decide)) ?_⟩
  have e3 : (find (⟨2, 1, [⟨(1, orS), 1, 1⟩], [], 1⟩ : AS GE) 4294967297).bind ((⟨2, 1, [⟨(1, orS), 1, 1⟩], [], 1⟩ : AS GE).sp[·]?) = some ⟨(1, orS), 1, 1⟩ := rfl
  rw [e3]
  rintro _ w4 ⟨h4, rfl⟩
  refine ⟨_, _, rfl, new_ok h4 fun k12 w5 h5 => stA_ok h5 rfl (orF_sz orS) (orF_oneA orS) fun w6 h6 => call_mono (git_Leave_ok (o := 1) h6.p1 k2) ?_⟩
  have e4 : leave (⟨2, 1, [⟨(1, orS), 1, 1⟩], [], 1⟩ : AS GE) 1 = (⟨2, 1, [⟨ge0, 2, 0⟩], [0], 0⟩, [(1, orS)]) := rfl
  have k3 := (leave_ok k2 1).1
  rw [e4] at k3 ⊢
  rintro _ w7 ⟨p, l, c, rfl, rfl, h7⟩
  refine asS_ok <| call_mono (git_Get_ok (h := 4294967297) (h7.p1) k3 (by decide) (by decide)) ?_
  have e5 : (find (⟨2, 1, [⟨ge0, 2, 0⟩], [0], 0⟩ : AS GE) 4294967297).bind ((⟨2, 1, [⟨ge0, 2, 0⟩], [0], 0⟩ : AS GE).sp[·]?) = none := rfl
  rw [e5]
  rintro _ w8 ⟨h8, rfl⟩
  refine ⟨_, _, rfl, new_ok h8 fun k18 w9 h9 => stA_ok h9 rfl (orF_sz or0) (orF_oneA or0) fun w10 h10 => br_true rfl <| br_true rfl <| br_true rfl ?_⟩
  have h11 := (h10.drew).perm (B := blk k12 (orF orS.1) T_api_Objref * (F * (blk k18 (orF or0.1) 34 * (Gt b a ⟨2, 1, [⟨ge0, 2, 0⟩], [0], 0⟩ * tab T_api_Objref 36 orC p 1 c [orS])))) (by
    show blk k18 _ _ * (Gt b a _ * (tab _ _ _ _ _ _ _ * (blk k12 (orF orS.1) T_api_Objref * F))) = _
    ac_rfl)
  refine ldA_blk0 h11 (orF_sz orS) <| call_mono (some_ok h11) ?_
  rintro _ w11 ⟨rfl, h12⟩
  exact asA_ok <| keepS_blk0 h12 <| or_eq (x := orS) (y := orS) <| br_true (by simp) <| br_true (by decide) ⟨rfl, h12.right.left⟩

theorem GitNil_row {W : World} {c o : Int} {v : Value} (hc : IntKind.u64.min ≤ c ∧ c ≤ IntKind.u64.max) (ho : IntKind.i64.min ≤ o ∧ o ≤ IntKind.i64.max) (hv : ∃ x, v = .agg (orF x) ∧ OIn x) :
    call Try.prog fn_tenonlaw19_GitNil #[.int .u64 c, .int .i64 o, v] W fun v w' => v = .bool true ∧ Below W.heap.size W w' := by
  obtain ⟨x, rfl, hx⟩ := hv
  obtain ⟨x, rfl⟩ : ∃ y : OR, y.1 = x := ⟨⟨x, hx⟩, rfl⟩
  apply tenonlaw19_GitNil_call
  unfold tenonlaw19_GitNil
  have hput : ∀ {w₀ w F}, Sat w₀ F w → call Try.prog fn_git_Table_Put #[.pointer none, .int .i64 o, .agg (orF x.1)] w fun v w' => v = .tuple #[.int .u64 0, .int .i64 3] ∧ Sat w₀ F w' := by
    intro w₀ w F h
    apply git_Table_Put_call
    unfold git_Table_Put
    exact new_ok h fun k w1 h1 => br_true rfl ⟨rfl, h1.right⟩
  have hget : ∀ {w₀ w F}, Sat w₀ F w → call Try.prog fn_git_Table_Get #[.pointer none, .int .u64 c] w fun v w' => v = .tuple #[.agg (orF or0.1), .int .i64 2] ∧ Sat w₀ F w' := by
    intro w₀ w F h
    apply git_Table_Get_call
    unfold git_Table_Get
    exact new_ok h fun k w1 h1 => br_true rfl <| stA_ok h1 rfl rfl (orF_oneA or0) fun w3 h3 => ldA_blk0 h3 rfl ⟨rfl, h3.right⟩
  have hdrop : ∀ {w₀ w F}, Sat w₀ F w → call Try.prog fn_git_Table_Drop #[.pointer none, .int .u64 c] w fun v w' => v = .tuple #[.agg (orF or0.1), .int .i64 2] ∧ Sat w₀ F w' := by
    intro w₀ w F h
    apply git_Table_Drop_call
    unfold git_Table_Drop
    exact new_ok h fun k w1 h1 => br_true rfl <| stA_ok h1 rfl rfl (orF_oneA or0) fun w3 h3 => ldA_blk0 h3 rfl ⟨rfl, h3.right⟩
  have hleave : ∀ {w₀ w F}, Sat w₀ F w → call Try.prog fn_git_Table_Leave #[.pointer none, .int .i64 o] w fun v w' => v = .slice none 0 0 ∧ Sat w₀ F w' := by
    intro w₀ w F h
    apply git_Table_Leave_call
    unfold git_Table_Leave
    exact new_ok h fun k w1 h1 => new_ok h1 fun k2 w2 h2 => ldP_ok (h2.right.left.cell (i := 0) rfl) <| br_true rfl ⟨rfl, h2.right.right⟩
  refine new_ok (Sat.start W) fun k1 w1 h1 => ldA_blk0 h1 (orF_sz x) <| call_mono (hput h1) ?_
  rintro _ w2 ⟨rfl, h2⟩
  refine ⟨_, _, rfl, call_mono (hget h2) ?_⟩
  rintro _ w3 ⟨rfl, h3⟩
  refine ⟨_, _, rfl, new_ok h3 fun k9 w4 h4 => stA_ok h4 rfl (orF_sz or0) (orF_oneA or0) fun w5 h5 => call_mono (hdrop h5.right) ?_⟩
  rintro _ w6 ⟨rfl, h6⟩
  refine ⟨_, _, rfl, new_ok h6 fun k9 w4 h4 => stA_ok h4 rfl (orF_sz or0) (orF_oneA or0) fun w5 h5 => ldA_blk0 h5.right (orF_sz x) <| call_mono (git_Find_ok (x0 := none) (ps := []) (Q := emp) (x := x) (fun k t Pre hP _ => gAll_nil hP) h5.right.right.with_emp) ?_⟩
  rintro _ w7 ⟨rfl, h7⟩
  refine ⟨_, _, rfl, call_mono (told_ok (x0 := none) (ps := []) (Q := emp) (by decide) (fun k t Pre hP _ => gAll_nil hP) h7) ?_⟩
  rintro _ w8 ⟨p, m, c', q, d, rfl, rfl, h8⟩
  refine ⟨_, _, _, _, _, _, rfl, br_true rfl <| br_true rfl <| br_true rfl <| br_true rfl <| call_mono (hleave h8.right.right.right) ?_⟩
  rintro _ w9 ⟨rfl, h9⟩
  refine asS_ok <| br_true rfl <| br_true rfl <| br_true (by simp) <| call_mono (tenonlaw19_awake_ok h9) ?_
  rintro _ w2 ⟨rfl, h2⟩
  exact asB_ok ⟨rfl, h2.below'⟩
end Go.Proofs.Ytkgbfnlnpfedkaa
