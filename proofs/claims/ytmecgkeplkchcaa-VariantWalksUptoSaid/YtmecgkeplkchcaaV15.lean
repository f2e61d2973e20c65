/- Values that came in: no longer than what was handed over. No conditions. -/
import Derived.Test.YtmecgkeplkchcaaRows
import Derived.Test.YtmecgkeplkchcaaV14
import Derived.Test.YtmecgkeplkchcaaVO
set_option linter.unusedVariables false
set_option linter.unusedSimpArgs false
set_option linter.unusedSectionVars false
set_option maxRecDepth 100000
namespace Go.Proofs.Ytmecgkeplkchcaa
open Go.Sp Go.RowKit

theorem sum_flat {α : Type} (l : List α) (f : α → List Nat) : (l.flatMap f).sum = (l.map fun a => (f a).sum).sum := by
  induction l with
  | nil => rfl
  | cons a l ih => rw [List.flatMap_cons, List.sum_append, List.map_cons, List.sum_cons, ih]
theorem tw_eq (x : VT) : tw x = wt1 x + (x.l.map tw).sum := by
  show ((ndD 0 x).map wt1).sum = _
  rw [ndD_eq, List.map_cons, List.sum_cons, List.map_flatMap, sum_flat]
  congr 2
  apply List.map_congr_left
  intro y hy
  rw [ndD_any y (dn 0) 0]
  rfl
theorem tw_er (x : VT) : tw (er x) = tw x := by
  induction x using VT.ind with
  | h x ih =>
    rw [tw_eq, tw_eq, er_l, List.map_map]
    have e : wt1 (er x) = wt1 x := by rw [er_def]; rfl
    rw [e]
    congr 2
    exact List.map_congr_left fun y hy => ih y hy
theorem tw_same {x y : VT} (h : er x = er y) : tw x = tw y := by rw [← tw_er x, ← tw_er y, h]
/-- A form is as long as what it lays. -/
theorem form1_ge (bs : List Int) {x : VT} (h : formB x = true) : bs.length + 1 + x.s.size ≤ (form1 bs x).length := by
  have hk := formB_kd h
  have hf : ∀ {a : Nat} {n s : Int}, 1 ≤ s → s.toNat ≤ (form a n s).length := fun hs => by rw [form_length _ _ _ hs]; omega
  obtain ⟨b1, hb1⟩ : ∃ b1, b1 = bs ++ form bs.length x.kd 1 := ⟨_, rfl⟩
  have hl : bs.length + 1 ≤ b1.length := by
    have := hf (a := bs.length) (n := x.kd) (s := 1) (by omega)
    rw [hb1, List.length_append]
    omega
  have z : ByteArray.empty.size = 0 := rfl
  unfold form1
  rw [← hb1]
  split
  · rename_i k
    rw [formB_1s h k, z, List.length_append]; omega
  · split
    · rename_i k
      rw [(formB_2 h k).2, z, List.length_append]; omega
    · split
      · rename_i k
        rw [formB_3 h k, z, List.length_append]; omega
      · split
        · rw [List.length_append, List.length_append, bytesS_len]; omega
        · split
          · rename_i k
            rw [(formB_6 h k).2, z, List.length_append]; omega
          · rw [(formB_0 h (by omega)).2, z]; omega
theorem lays_ge (x : VT) : ∀ (d : Int) (bs : List Int), chkR d x = 0 → 24 * bs.length + tw x ≤ 24 * (lays bs x).length := by
  induction x using VT.ind with
  | h x ih =>
    intro d bs hc
    rw [chkR_eq] at hc
    have c1 : chk1 d x = 0 := by
      by_cases h : chk1 d x = 0
      · exact h
      · rw [if_pos h] at hc; exact absurd hc h
    rw [if_neg (by simp [c1])] at hc
    have h1 := form1_ge bs (chk1_zero c1).2.1
    rw [lays_eq, tw_eq]
    have key : ∀ (l : List VT), (∀ y ∈ l, y ∈ x.l) → ∀ b : List Int, 24 * b.length + (l.map tw).sum ≤ 24 * (l.foldl lays b).length := by
      intro l
      induction l with
      | nil => intro _ b; simp
      | cons y l ihl =>
        intro hm b
        have hy := hm y (.head _)
        have a1 := ih y hy (dn d) b (nz_zero hc _ (List.mem_map_of_mem hy))
        have a2 := ihl (fun z hz => hm z (.tail _ hz)) (lays b y)
        rw [List.foldl_cons, List.map_cons, List.sum_cons]
        omega
    have h2 := key x.l (fun y h => h) (form1 bs x)
    unfold wt1
    omega
theorem tw_enc {x : VT} (hc : chkR 0 x = 0) : tw x ≤ 24 * (encV x).length := by
  have := lays_ge x 0 [] hc
  rw [← encV_lays] at this
  simpa using this

section
open Go.ChangeShapes Go.WideShapes Go.Deep
variable {H : Type} {enc : TypeId × Value → H} {W : World} {base : Nat}
theorem sum_bulk {H : Type} : ∀ (zs : List VT) (ds : List (DataW H)), zs.length = ds.length → (∀ (i : Nat) (z : VT) (d : DataW H), zs[i]? = some z → ds[i]? = some d → tw z ≤ 24 * Rows.uptoBulk d) → (zs.map tw).sum ≤ 24 * Rows.uptoBulkAll ds
  | [], ds, _, _ => by simp
  | z :: zs, [], h, _ => by simp at h
  | z :: zs, d :: ds, h, hp => by
    have h1 := hp 0 z d rfl rfl
    have h2 := sum_bulk zs ds (by simpa using h) fun i z' d' a b => hp (i + 1) z' d' (by simpa using a) (by simpa using b)
    rw [List.map_cons, List.sum_cons, Rows.uptoBulkAll]
    omega
theorem open_Vb : ∀ (fuel : Nat) (cs : List Value) (y : DataW H × List MemPlace), cs.length = 4 → DataW.trod enc Try.prog W 0 (fun _ => true) true fuel T_api_Var cs = some y → ∃ x, cs = vc x ∧ VOk W x ∧ VIn x ∧ tw x ≤ 24 * Rows.uptoBulk y.1 := by
  intro fuel
  induction fuel using Nat.strongRecOn with
  | ind fuel ih =>
    intro cs y hl h
    have hu := Try.underlying24
    have hc1 : Try.prog.cellsOf T_api_Var = 4 := by kernel_rfl
    match cs, hl with
    | [c0, c1, c2, c3], _ =>
      obtain ⟨xs, n, rfl, rfl, _, hxl, hx⟩ := DataW.trod_struct hu h
      match xs, hxl with
      | [x0, x1, x2, x3], _ =>
        have f0 : DataW.trod enc Try.prog W 0 (fun _ => true) true n T_int [c0] = some x0 := hx 0 _ rfl
        have f1 : DataW.trod enc Try.prog W 0 (fun _ => true) true n T_int64 [c1] = some x1 := hx 1 _ rfl
        have f2 : DataW.trod enc Try.prog W 0 (fun _ => true) true n T_string [c2] = some x2 := hx 2 _ rfl
        obtain ⟨m0, g0, _, w0⟩ := DataW.trod_int Try.underlying3 f0
        obtain ⟨m1, g1, _, w1⟩ := DataW.trod_int Try.underlying2 f1
        obtain ⟨s, g2, e2, w2⟩ := DataW.trod_string Try.underlying9 f2
        have h3 : DataW.trod enc Try.prog W 0 (fun _ => true) true n T_sl_api_Var [c3] = some x3 := hx 3 _ rfl
        simp only [List.cons.injEq, and_true] at g0 g1 g2
        subst g0 g1 g2
        have r0 := wf_range w0
        have r1 := wf_range w1
        simp [IntKind.min, IntKind.max, IntKind.signed, IntKind.bits] at r0 r1
        simp only [maxLen] at w2
        have e2 : x2 = (.lit (.string s.data.toList), []) := by first | exact e2 | (simpa using e2)
        have e2s : s.data.toList.length = s.size := by rw [Array.length_toList]; rfl
        rcases DataW.trod_slice Try.underlying22 h3 with ⟨hv, _⟩ | ⟨a, len, cap, elems, rest, k, rfl, hv, e3, hb, hlc, hcm, hlen, hel, _, _⟩
        · simp only [List.cons.injEq, and_true] at hv
          subst hv
          refine ⟨.mk m0 m1 s none 0 [], rfl, .mk ⟨rfl, fun h => absurd h (by simp [VT.l]), fun a e => by cases e⟩ (fun y hy => by cases hy), .mk r0 r1 ⟨by simp only [VT.s]; omega, by simp [VT.l]⟩ (fun y hy => by cases hy), ?_⟩
          rw [tw_eq, e2]
          simp only [VT.l, wt1, VT.s, List.map_nil, List.sum_nil, List.map_cons, Rows.uptoBulk, Rows.uptoBulkAll]
          omega
        · simp only [List.cons.injEq, and_true] at hv
          subst hv
          rw [hc1] at hel
          obtain ⟨zs, hzl, hz⟩ := collect (P := fun i (x : VT) => (∀ j, j < 4 → W.cell? ((a.add (i * 4)).add j) = (vc x)[j]?) ∧ VOk W x ∧ VIn x ∧ ∀ e, elems[i]? = some e → tw x ≤ 24 * Rows.uptoBulk e.1) len (fun i hlt => by
            have h1 := hel i hlt
            rw [List.getElem?_eq_getElem (by omega)] at h1
            obtain ⟨cs', h2, h4⟩ := Option.bind_eq_some_iff.1 h1
            obtain ⟨_, hcl, hat⟩ := World.cells?_some h2
            obtain ⟨x, e, hO, hI, hT⟩ := ih k (by omega) cs' _ hcl h4
            refine ⟨x, fun j hj => by rw [hat j hj, e], hO, hI, fun e' he => ?_⟩
            rw [List.getElem?_eq_getElem (by omega)] at he
            cases he
            exact hT)
          simp only [maxLen] at hcm
          refine ⟨.mk m0 m1 s (some a) cap zs, by simp [vc, VT.kd, VT.n, VT.s, VT.p, VT.c, VT.l, hzl], .mk ⟨by rw [flatLen vc_len], fun _ => ⟨a, rfl⟩, fun a' e j u hj => ?_⟩ (fun y hy => ?_), .mk r0 r1 ⟨by simp only [VT.s]; omega, by simp only [VT.l]; omega⟩ (fun y hy => ?_), ?_⟩
          · cases e
            have hjl := (List.getElem?_eq_some_iff.1 hj).1
            rw [flatLen vc_len] at hjl
            simp only [VT.l] at hjl hj
            have hi : j / 4 < zs.length := Nat.div_lt_of_lt_mul (by rw [Nat.mul_comm]; exact hjl)
            have hx : zs[j / 4]? = some zs[j / 4] := by simp [hi]
            have hm : j % 4 < 4 := Nat.mod_lt _ (by decide)
            have e : j = j / 4 * 4 + j % 4 := by omega
            have h1 := (hz (j / 4) _ hx).1 (j % 4) hm
            rw [Sp.add_add, ← e] at h1
            rw [h1, ← flatGet vc_len hx hm, ← e]
            exact hj
          · obtain ⟨i, hi⟩ := List.mem_iff_getElem?.1 hy
            exact (hz i _ hi).2.1
          · obtain ⟨i, hi⟩ := List.mem_iff_getElem?.1 hy
            exact (hz i _ hi).2.2.1
          · have hs := sum_bulk zs (elems.map (·.1)) (by rw [List.length_map]; omega) fun i z d hz' hd => by
              rw [List.getElem?_map] at hd
              obtain ⟨e, he, rfl⟩ := Option.map_eq_some_iff.1 hd
              exact (hz i z hz').2.2.2 e he
            rw [tw_eq, e2, e3]
            simp only [VT.l, wt1, VT.s, List.map_cons, List.map_nil, Rows.uptoBulk, Rows.uptoBulkAll]
            omega
/-- A value that came in, and how great it is. -/
def VArgB (n : Nat) (W : World) (v : Value) : Prop := ∃ x, v = .agg (va x) ∧ VOk W x ∧ VIn x ∧ tw x ≤ n
theorem open_VarB {v : Value} {d : DataW H} {ps : List MemPlace} (hv : Value.okWide Try.prog W .any base T_api_Var v) (h : DataW.Trod enc Try.prog W 0 (fun _ => true) true T_api_Var v d ps) : VArgB (24 * Rows.uptoBulk d) W v := by
  obtain ⟨cs, rfl, hsz⟩ := okWide_struct Try.underlying24 hv
  obtain ⟨fuel, h⟩ := h
  have hc : Try.prog.cellsOf T_api_Var = 4 := by kernel_rfl
  obtain ⟨x, e, hO, hI, hT⟩ := open_Vb fuel cs.toList _ (by simpa [hc] using hsz) h
  exact ⟨x, by rw [va, ← e], hO, hI, hT⟩
theorem Rows_bulk {l : List (DataW H)} (h : Rows.uptoSmall H l = true) : Rows.uptoBulkAll l ≤ 1048576 := of_decide_eq_true h
theorem bulk_length (l : List (DataW H)) : l.length ≤ Rows.uptoBulkAll l := by
  induction l with
  | nil => simp
  | cons x r ih =>
    have : 1 ≤ Rows.uptoBulk x := by
      cases x with
      | lit l => cases l <;> simp [Rows.uptoBulk]
      | nil => simp [Rows.uptoBulk]
      | ptr d => simp [Rows.uptoBulk]
      | slice elems spare => simp [Rows.uptoBulk]
      | agg parts => simp [Rows.uptoBulk]
      | iface t d => simp [Rows.uptoBulk]
      | map entries => simp [Rows.uptoBulk]
      | held h => simp [Rows.uptoBulk]
    simp only [Rows.uptoBulkAll, List.length_cons]
    omega
theorem bulk_len {t e : TypeId} {v : Value} {d : DataW H} {ps : List MemPlace} (ht : Try.prog.underlying t = some (.slice e)) (h : DataW.Trod enc Try.prog W 0 (fun _ => true) true t v d ps) : ∀ p l c, v = .slice p l c → l ≤ Rows.uptoBulk d := by
  rintro p l c rfl
  obtain ⟨fuel, h⟩ := h
  rcases DataW.trod_slice ht h with ⟨hv, _⟩ | ⟨a, len, cap, elems, rest, k, _, hv, e3, _, _, _, hlen, _, _, _⟩
  · simp only [Value.cells, List.cons.injEq, and_true, Value.slice.injEq] at hv
    simp [hv.2.1]
  · simp only [Value.cells, List.cons.injEq, and_true, Value.slice.injEq] at hv
    obtain ⟨_, rfl, _⟩ := hv
    simp only [Prod.mk.injEq] at e3
    rw [e3.1, Rows.uptoBulk]
    have := bulk_length (elems.map (·.1))
    rw [List.length_map] at this
    omega
end
end Go.Proofs.Ytmecgkeplkchcaa
