/- Weak: a pair's acts. No conditions. -/
import Derived.Test.YtiogdefiokmmkaaWK5
set_option linter.unusedVariables false
set_option linter.unusedSimpArgs false
set_option maxRecDepth 100000
namespace Go.Proofs.Ytiogdefiokmmkaa
open Go.Sp Go.RowKit

structure WAct where
  kind : Int
  h : Int
  tg : Int
  raw : Int
def acL (x : WAct) : List Value := [.int .i64 x.kind, .int .i64 x.h, .int .u64 x.tg, .int .u64 x.raw]
theorem acL_one (x : WAct) : ∀ u ∈ (acL x).toArray.toList, u.oneCell' = true := by simp [acL, Value.oneCell']
structure ActIn (x : WAct) : Prop where
  kind : -9223372036854775808 ≤ x.kind ∧ x.kind ≤ 9223372036854775807
  h : -9223372036854775808 ≤ x.h ∧ x.h ≤ 9223372036854775807
  tg : 0 ≤ x.tg ∧ x.tg ≤ 18446744073709551615
  raw : 0 ≤ x.raw ∧ x.raw ≤ 18446744073709551615
structure ActAt (w : World) (a : Addr) (x : WAct) : Prop extends ActIn x where
  cells : ∀ j, j < 4 → w.cell? (a.add j) = (acL x)[j]?
structure Acts (w : World) (p : Option Addr) (l : Nat) (xs : List WAct) : Prop where
  len : xs.length = l
  ptr : 0 < l → ∃ a, p = some a
  at_ : ∀ a, p = some a → ∀ i x, xs[i]? = some x → ActAt w (a.add (i * 4)) x
theorem ActAt.old {w₀ w W : World} {a : Addr} {x : WAct} (h : ActAt W a x) (hs : Sat w₀ (old W) w) : ActAt w a x :=
  ⟨h.toActIn, fun j hj => by
    have e : (acL x)[j]? = some ((acL x)[j]'(by exact hj)) := by simp [acL, hj]
    rw [e]
    exact hs.old_cell ((h.cells j hj).trans e)⟩
theorem Acts.idx {w₀ w W : World} {p : Option Addr} {l : Nat} {xs : List WAct} {i : Int} {K : Addr → Prop} (h : Acts W p l xs) (hs : Sat w₀ (old W) w) (h0 : 0 ≤ i) (h1 : i < (l : Int))
    (hk : ∀ a x, xs[i.toNat]? = some x → ActAt w a x → K a) : Sp.idx p l i 4 K := by
  obtain ⟨a, rfl⟩ := h.ptr (by omega)
  have hlt : i.toNat < xs.length := by rw [h.len]; omega
  have hx := h.at_ a rfl i.toNat xs[i.toNat] (by simp [hlt])
  exact ⟨⟨h0, h1⟩, hk _ _ (by simp [hlt]) (hx.old hs)⟩
theorem ActAt.ld {w : World} {a : Addr} {x : WAct} {K : Array Value → Prop} (h : ActAt w a x) (hk : K (acL x).toArray) : ldA a 4 w K :=
  ldA_ok rfl (fun j hj => by rw [h.cells j hj]; simp) hk
section
open Go.ChangeShapes Go.WideShapes Go.Deep
variable {H : Type} {enc : TypeId × Value → H} {W : World} {base : Nat}
theorem open_Acts {v : Value} {d : DataW H} {ps : List MemPlace} (hv : Value.okWide Try.prog W .any base T_sl_tenonlaw12_Act v) (h : DataW.Trod enc Try.prog W 0 (fun _ => true) true T_sl_tenonlaw12_Act v d ps) :
    ∃ p l c xs, v = .slice p l c ∧ l ≤ 9223372036854775807 ∧ Acts W p l xs := by
  obtain ⟨p0, l0, c0, rfl⟩ := okWide_slice Try.underlying22 hv
  obtain ⟨fuel, h⟩ := h
  have hf : Try.prog.info? T_tenonlaw12_Act = some (Try.prog.types[T_tenonlaw12_Act]'(of_decide_eq_true (by kernel_rfl))) := by kernel_rfl
  obtain ⟨p, l, c, zs, e, hzl, hlc, hc, hp, hz⟩ := open_elems (sz := 4) (R := fun a (x : WAct) => ActAt W a x) Try.underlying22 hf (by kernel_rfl) h (fun a cs n y hcl hat htr => by
    match cs, hcl with
    | [c0, c1, c2, c3], hcl =>
      have hu := Try.underlying37
      obtain ⟨_, _, f0⟩ := field_cell hu htr 0 rfl (by kernel_rfl) (v := c0) rfl
      obtain ⟨_, _, f1⟩ := field_cell hu htr 1 rfl (by kernel_rfl) (v := c1) rfl
      obtain ⟨_, _, f2⟩ := field_cell hu htr 2 rfl (by kernel_rfl) (v := c2) rfl
      obtain ⟨_, _, f3⟩ := field_cell hu htr 3 rfl (by kernel_rfl) (v := c3) rfl
      obtain ⟨m0, h0, _, w0⟩ := DataW.trod_int Try.underlying3 f0
      obtain ⟨m1, h1, _, w1⟩ := DataW.trod_int Try.underlying3 f1
      obtain ⟨m2, h2, _, w2⟩ := DataW.trod_int Try.underlying35 f2
      obtain ⟨m3, h3, _, w3⟩ := DataW.trod_int Try.underlying35 f3
      simp only [List.cons.injEq, and_true] at h0 h1 h2 h3
      subst h0 h1 h2 h3
      have r0 := wf_range w0
      have r1 := wf_range w1
      have r2 := wf_range w2
      have r3 := wf_range w3
      simp [IntKind.min, IntKind.max, IntKind.signed, IntKind.bits] at r0 r1 r2 r3
      refine ⟨⟨m0, m1, m2, m3⟩, ⟨r0, r1, r2, r3⟩, fun j hj => ?_⟩
      rw [hat j hj]
      rfl)
  cases e
  exact ⟨p0, l0, c0, zs, rfl, by simp only [maxLen] at hc; omega, ⟨hzl, hp, fun a e i x hx => hz a e i x hx⟩⟩
end

def prA (b br : Nat) (p : Option Addr) (l c : Nat) : Array Value := #[.pointer (some ⟨b, 0, none⟩), .pointer (some ⟨br, 0, none⟩), .slice p l c]
def Pr (pb b a r br rr : Nat) (N : Int) (s : WS) : HP := ex fun p => ex fun l => ex fun c => ex fun hs : List Int =>
  prop ((∀ x ∈ hs, 0 ≤ x ∧ x ≤ 18446744073709551615) ∧ (hs.length : Int) ≤ N) * (blk pb (prA b br p l c) T_tenonlaw12_Pair * (tab T_uint64 1 fU64 p l c hs * (WT b a r N s * RT br rr s)))
section
variable {w₀ w : World} {F : HP} {pb b a r br rr : Nat} {N : Int} {s : WS}
theorem Pr.open_ (h : Sat w₀ (Pr pb b a r br rr N s * F) w) : ∃ p c hs, (∀ x ∈ hs, 0 ≤ x ∧ x ≤ 18446744073709551615) ∧ (hs.length : Int) ≤ N ∧ Sat w₀ (blk pb (prA b br p hs.length c) T_tenonlaw12_Pair * (tab T_uint64 1 fU64 p hs.length c hs * (WT b a r N s * (RT br rr s * F)))) w := by
  obtain ⟨p, h⟩ := Sat.ex h
  obtain ⟨l, h⟩ := Sat.ex h
  obtain ⟨c, h⟩ := Sat.ex h
  obtain ⟨hs, h⟩ := Sat.ex h
  have h := h.perm (B := prop ((∀ x ∈ hs, 0 ≤ x ∧ x ≤ 18446744073709551615) ∧ (hs.length : Int) ≤ N) * (blk pb (prA b br p l c) T_tenonlaw12_Pair * (tab T_uint64 1 fU64 p l c hs * (WT b a r N s * (RT br rr s * F))))) (by ac_rfl)
  have e1 := tab_len fU64_len (by decide) h.right.right.left
  subst e1
  exact ⟨p, c, hs, h.prop.1, h.prop.2, h.right⟩
theorem Pr.shut {p : Option Addr} {l c : Nat} {hs : List Int} (h1 : ∀ x ∈ hs, 0 ≤ x ∧ x ≤ 18446744073709551615) (h2 : (hs.length : Int) ≤ N) (h : Sat w₀ (blk pb (prA b br p l c) T_tenonlaw12_Pair * (tab T_uint64 1 fU64 p l c hs * (WT b a r N s * (RT br rr s * F)))) w) : Sat w₀ (Pr pb b a r br rr N s * F) w :=
  Sat.to_ex p (Sat.to_ex l (Sat.to_ex c (Sat.to_ex hs ((h.add_prop (p := (∀ x ∈ hs, 0 ≤ x ∧ x ≤ 18446744073709551615) ∧ (hs.length : Int) ≤ N) ⟨h1, h2⟩).perm (by ac_rfl)))))
theorem Pair_do_ok {x : WAct} (hh : Sat w₀ (Pr pb b a r br rr N s * F) w) (hx : ActIn x) (hN1 : 1 ≤ N) (hN : N < 1000) :
    call Try.prog fn_tenonlaw12_Pair_do #[.pointer (some ⟨pb, 0, none⟩), .agg (acL x).toArray] w fun v w' => v = .bool true ∧ ∃ s', s'.most = s.most ∧ Sat w₀ (Pr pb b a r br rr (N + 1) s' * F) w' := by
  apply tenonlaw12_Pair_do_call
  unfold tenonlaw12_Pair_do
  obtain ⟨p, c, hs, hrng, hlen, h1⟩ := Pr.open_ hh
  refine new_ok h1 fun k1 w1 h2 => ldI_ok (cell_blk h2 (i := 3) rfl) ?_
  have h2 : Sat w₀ (blk k1 (acL x).toArray T_tenonlaw12_Act * (blk pb (prA b br p hs.length c) T_tenonlaw12_Pair * (tab T_uint64 1 fU64 p hs.length c hs * (WT b a r N s * (RT br rr s * F))))) w1 := h2
  refine ⟨fun n w => (0 ≤ n ∧ n ≤ 18446744073709551615) ∧ Sat w₀ (blk k1 (acL x).toArray T_tenonlaw12_Act * (blk pb (prA b br p hs.length c) T_tenonlaw12_Pair * (tab T_uint64 1 fU64 p hs.length c hs * (WT b a r N s * (RT br rr s * F))))) w, ?_, ?_⟩
  · refine ⟨fun b w => (b = true → 0 < hs.length) ∧ w = w1, ?_, ?_⟩
    · refine br_split (fun _ => nn_ok <| ldS_ok (h2.right.left.cell (i := 2) rfl) ⟨fun h => ?_, rfl⟩) (fun _ => ⟨(fun h => by cases h), rfl⟩)
      simpa using h
    · rintro u b8 w2 ⟨hb, rfl⟩
      refine br_split (fun ht => ?_) (fun _ => ⟨hx.raw, h2⟩)
      have hl := hb ht
      have h3 := h2.drew
      obtain ⟨k, hpk, hk0, hk1, _⟩ := tenonref01_Pick_ok x.h hs.length hx.h.1 hx.h.2 (by omega) (by omega)
      have hk1 := hk1 (by omega)
      refine nn_ok <| ldS_ok (h3.right.left.cell (i := 2) rfl) <| ldI_ok (cell_blk h3 (i := 1) rfl) <| nn_ok <| ldS_ok (h3.right.left.cell (i := 2) rfl) <| call_pure hpk <| asI_ok ⟨h3.right.left.cell (i := 2) rfl, ?_⟩
      have hg : hs[k.toNat]? = some (hs[k.toNat]'(by omega)) := by simp
      refine tab_idx fU64_len h3.right.right.left (by decide) hk0 hg fun g hg2 => ldI_ok (tab_cell fU64_len (j := 0) h3.right.right.left hg2 hg (by decide) rfl) ⟨hrng _ (List.getElem_mem _), h3⟩
  rintro u n w4 ⟨hn, h3⟩
  -- what is there
  obtain ⟨ok, f, hf, _⟩ := WT.open_ (h3.perm (B := WT b a r N s * (blk k1 (acL x).toArray T_tenonlaw12_Act * (blk pb (prA b br p hs.length c) T_tenonlaw12_Pair * (tab T_uint64 1 fU64 p hs.length c hs * (RT br rr s * F))))) (by ac_rfl))
  obtain ⟨L, pL, cL, hr, h4⟩ := RT.open_ (h3.perm (B := RT br rr s * (WT b a r N s * (blk k1 (acL x).toArray T_tenonlaw12_Act * (blk pb (prA b br p hs.length c) T_tenonlaw12_Pair * (tab T_uint64 1 fU64 p hs.length c hs * F))))) (by ac_rfl))
  have hsm := hr.small ok.ok
  -- where all is put together again
  have fin : ∀ {w s'}, Sat w₀ (RT br rr s' * (WT b a r (N + 1) s' * (blk k1 (acL x).toArray T_tenonlaw12_Act * (blk pb (prA b br p hs.length c) T_tenonlaw12_Pair * (tab T_uint64 1 fU64 p hs.length c hs * F))))) w → Sat w₀ (Pr pb b a r br rr (N + 1) s' * F) w := fun h =>
    (Pr.shut hrng (by omega) (h.perm (B := blk pb (prA b br p hs.length c) T_tenonlaw12_Pair * (tab T_uint64 1 fU64 p hs.length c hs * (WT b a r (N + 1) _ * (RT br rr _ * (F * blk k1 (acL x).toArray T_tenonlaw12_Act))))) (by ac_rfl))).perm (B := blk k1 (acL x).toArray T_tenonlaw12_Act * (Pr pb b a r br rr (N + 1) _ * F)) (by ac_rfl) |>.right
  have c1 : ∀ {w A B}, Sat w₀ (A * (B * (blk k1 (acL x).toArray T_tenonlaw12_Act * (blk pb (prA b br p hs.length c) T_tenonlaw12_Pair * (tab T_uint64 1 fU64 p hs.length c hs * F))))) w → w.cell? ⟨pb, 1, none⟩ = some (.pointer (some ⟨br, 0, none⟩)) := fun h => h.right.right.right.left.cell (i := 1) rfl
  have c0 : ∀ {w A B}, Sat w₀ (A * (B * (blk k1 (acL x).toArray T_tenonlaw12_Act * (blk pb (prA b br p hs.length c) T_tenonlaw12_Pair * (tab T_uint64 1 fU64 p hs.length c hs * F))))) w → w.cell? ⟨pb, 0, none⟩ = some (.pointer (some ⟨b, 0, none⟩)) := fun h => h.right.right.right.left.cell (i := 0) rfl
  have cx : ∀ {w : World} {A B : HP} (i : Nat) {v : Value}, Sat w₀ (A * (B * (blk k1 (acL x).toArray T_tenonlaw12_Act * (blk pb (prA b br p hs.length c) T_tenonlaw12_Pair * (tab T_uint64 1 fU64 p hs.length c hs * F))))) w → (acL x).toArray[i]? = some v → w.cell? ((⟨k1, 0, none⟩ : Addr).add i) = some v := @fun _ _ _ i _ h e => cell_blk h.right.right e
  have hR : ∀ {w s'}, WRel s' L → Sat w₀ (blk br (rtA pL rr L.length cL) T_tenonref12_Table * (tab T_tenonref12_Block 4 rbF pL L.length cL L * (RAr rr (z0 s') * F))) w → Sat w₀ (RT br rr s' * F) w := fun h1 h2 => RT.shut h1 h2
  refine nn_ok <| ldP_ok (c1 (h4.perm (B := (blk br (rtA pL rr L.length cL) T_tenonref12_Table * (tab T_tenonref12_Block 4 rbF pL L.length cL L * RAr rr (z0 s))) * (WT b a r N s * (blk k1 (acL x).toArray T_tenonlaw12_Act * (blk pb (prA b br p hs.length c) T_tenonlaw12_Pair * (tab T_uint64 1 fU64 p hs.length c hs * F))))) (by ac_rfl))) <| call_mono (rt_At_ok (h := n) h4 hsm) ?_
  rintro _ w5 ⟨rfl, rfl⟩
  obtain ⟨k, hpk, hk0, hk1, _⟩ := tenonref01_Pick_ok x.kind 7 hx.kind.1 hx.kind.2 (by omega) (by omega)
  have h5 : Sat w₀ (WT b a r N s * ((blk br (rtA pL rr L.length cL) T_tenonref12_Table * (tab T_tenonref12_Block 4 rbF pL L.length cL L * RAr rr (z0 s))) * (blk k1 (acL x).toArray T_tenonlaw12_Act * (blk pb (prA b br p hs.length c) T_tenonlaw12_Pair * (tab T_uint64 1 fU64 p hs.length c hs * F))))) w5 := h4.perm (by ac_rfl)
  have toRT : ∀ {w A}, Sat w₀ (A * ((blk br (rtA pL rr L.length cL) T_tenonref12_Table * (tab T_tenonref12_Block 4 rbF pL L.length cL L * RAr rr (z0 s))) * (blk k1 (acL x).toArray T_tenonlaw12_Act * (blk pb (prA b br p hs.length c) T_tenonlaw12_Pair * (tab T_uint64 1 fU64 p hs.length c hs * F))))) w →
      Sat w₀ (RT br rr s * (A * (blk k1 (acL x).toArray T_tenonlaw12_Act * (blk pb (prA b br p hs.length c) T_tenonlaw12_Pair * (tab T_uint64 1 fU64 p hs.length c hs * F))))) w := fun h => RT.shut hr (h.perm (by ac_rfl))
  refine asI_ok <| ldI_ok (cx 0 h5 rfl) <| call_pure hpk <| asI_ok ⟨fun b w => b = (k == 0 || k == 1) ∧ w = w5, ?_, ?_⟩
  · refine br_split (fun h => ⟨?_, rfl⟩) (fun h => ⟨?_, rfl⟩)
    · have : k = 0 := by simpa using h
      subst this
      rfl
    · have : ¬ k = 0 := by simpa using h
      simp [this]
  rintro u b29 w7 ⟨rfl, rfl⟩
  refine br_split (fun h01 => ?_) (fun h01 => br_split (fun h2k => ?_) (fun h2k => ?_))
  · -- Of
    have h6 := h5.drew
    refine nn_ok <| ldP_ok (c0 h6) <| ldI_ok (cx 2 h6 rfl) <| call_mono (weak_Of_ok (t := x.tg) h6 hN1 (by omega) hx.tg.1 hx.tg.2) ?_
    rintro _ w8 ⟨s', h, e, rfl, hO, h7⟩
    have ok' := (WT.open_ h7).1
    have h8 := (toRT h7).drew
    refine ⟨_, _, rfl, nn_ok <| ldP_ok (c1 h8) <| ldI_ok (cx 2 h8 rfl) <| call_mono (rt_Of_ok h8 ok (by omega) hf hO) ?_⟩
    rintro _ w9 ⟨rfl, h9⟩
    refine asI_ok ⟨fun w => Sat w₀ (Pr pb b a r br rr (N + 1) s' * F) w, ?_, ?_⟩
    · refine br_split (fun hne => ?_) (fun _ => fin h9)
      refine nn_ok <| ldS_ok (h9.right.right.right.left.cell (i := 2) rfl) <| new_ok h9 fun k44 w10 h10 => ?_
      refine tab_app u64sTy fU64_len (by decide) fU64_one (x := h) (h10.perm (B := _ * (tab T_uint64 1 fU64 p hs.length c hs * (blk pb (prA b br p hs.length c) T_tenonlaw12_Pair * (RT br rr s' * (WT b a r (N + 1) s' * (blk k1 (acL x).toArray T_tenonlaw12_Act * F)))))) (by ac_rfl)) rfl (by simp only [maxLen]; omega) (by omega) fun p' c' w11 h11 => ?_
      refine nn_ok <| st_ok (i := 2) h11.p1 (by simp [prA]) fun w12 h12 => ?_
      refine Pr.shut (p := p') (l := hs.length + 1) (c := c') (hs := hs ++ [h]) (fun y hy => ?_) (by rw [List.length_append]; simp; omega) ?_
      · rcases List.mem_append.1 hy with hy | hy
        · exact hrng y hy
        · rw [List.mem_singleton] at hy; subst hy; exact hO.rng ok.ok ok'.ok
      · have h13 : Sat w₀ (blk pb (prA b br p' (hs.length + 1) c') T_tenonlaw12_Pair * (tab T_uint64 1 fU64 p' (hs.length + 1) c' (hs ++ [h]) * (RT br rr s' * (WT b a r (N + 1) s' * (blk k1 (acL x).toArray T_tenonlaw12_Act * F))))) w12 := h12
        exact (h13.perm (B := blk k1 (acL x).toArray T_tenonlaw12_Act * (blk pb (prA b br p' (hs.length + 1) c') T_tenonlaw12_Pair * (tab T_uint64 1 fU64 p' (hs.length + 1) c' (hs ++ [h]) * (WT b a r (N + 1) s' * (RT br rr s' * F))))) (by ac_rfl)).right
    · rintro u w13 h13
      rcases hO.zero ok.ok with ⟨z1, z2⟩ | ⟨z1, z2⟩
      · exact br_true (by simp) <| br_true (by simp [z1, z2]) <| br_true (by simp [z2]) ⟨rfl, _, (hO.len ok.ok).2, h13⟩
      · exact br_true (by simp) <| br_true (by simp [z1, z2]) <| br_false (by simp [z2]) ⟨by simp [z2], _, (hO.len ok.ok).2, h13⟩
  · -- Up
    refine nn_ok <| ldP_ok (c0 h5) <| call_mono (weak_Up_ok (h := n) h5 (by omega) hn.1 hn.2) ?_
    rintro _ w8 ⟨s', m, e, rfl, hU, h6⟩
    refine ⟨_, _, rfl, ?_⟩
    rcases atW_cases ok hr n with ⟨hno, hat⟩ | ⟨i, y, kk, bb, j, q, hat, hj⟩ <;> rw [hat]
    · cases hU with
      | yes q => exact (hno _ q.bl).elim
      | no _ => exact br_true (by decide) <| br_true rfl ⟨rfl, _, rfl, fin (toRT h6)⟩
    · cases hU with
      | no hno => exact (hno _ q.bl).elim
      | @yes i' y' kk' bb' q' =>
        obtain rfl := Bl.one ok.ok q.bl q'.bl
        have hrg := ok.rng q'
        have hj' : L[(j : Int).toNat]? = some (n, bb) := by rw [Int.toNat_natCast]; exact hj
        have hlt := (List.getElem?_eq_some_iff.1 hj).1
        have h7 : Sat w₀ (blk br (rtA pL rr L.length cL) T_tenonref12_Table * (tab T_tenonref12_Block 4 rbF pL L.length cL L * (RAr rr (z0 s) * (WT b a r (N + 1) (setX s i' (some (kk', { bb with cn := bb.cn + 1 }))) * (blk k1 (acL x).toArray T_tenonlaw12_Act * (blk pb (prA b br p hs.length c) T_tenonlaw12_Pair * (tab T_uint64 1 fU64 p hs.length c hs * F))))))) w8 := h6.perm (by ac_rfl)
        refine br_false (by simp) <| nn_ok <| ldP_ok (c1 h6) <| nn_ok <| ldS_ok (h7.left.cell (i := 1) rfl) <| tab_idx rbF_len h7.right.left (by decide) (by omega) hj' fun g hg => ldI_ok (tab_cell rbF_len (j := 3) h7.right.left hg hj' (by decide) rfl) <| arith_u32 (by dsimp only; omega) (by dsimp only; omega) <| tab_idx rbF_len h7.right.left (by decide) (by omega) hj' fun g hg => ?_
        rw [Int.toNat_natCast]
        refine tab_st rbF_len (y' := (n, { bb with cn := bb.cn + 1 })) h7.p1 hg hj (by decide) rfl fun w9 h8 => ?_
        have h8 := h8.p1
        have hj2 : (L.set j (n, { bb with cn := bb.cn + 1 }))[(j : Int).toNat]? = some (n, { bb with cn := bb.cn + 1 }) := by rw [Int.toNat_natCast]; simp [hlt]
        have h9 := RT.shut (b := br) (r := rr) (hr.setX ok q' hj { bb with cn := bb.cn + 1 }) (h8.perm (B := blk br (rtA pL rr L.length cL) T_tenonref12_Table * (tab T_tenonref12_Block 4 rbF pL L.length cL (L.set j (n, { bb with cn := bb.cn + 1 })) * (RAr rr (z0 (setX s i' (some (kk', { bb with cn := bb.cn + 1 })))) * (WT b a r (N + 1) (setX s i' (some (kk', { bb with cn := bb.cn + 1 }))) * (blk k1 (acL x).toArray T_tenonlaw12_Act * (blk pb (prA b br p hs.length c) T_tenonlaw12_Pair * (tab T_uint64 1 fU64 p hs.length c hs * F))))))) (by rw [z0_setX q']))
        refine nn_ok <| ldP_ok (c1 h9) <| nn_ok <| ldS_ok (h8.left.cell (i := 1) rfl) <| tab_idx rbF_len h8.right.left (by decide) (by omega) hj2 fun g hg => ldI_ok (tab_cell rbF_len (j := 3) h8.right.left hg hj2 (by decide) rfl) <| br_true (by simp) ⟨rfl, _, setX_len.2, fin h9⟩
  · refine ⟨fun b w => b = (k == 3 || k == 4) ∧ w = w7, ?_, ?_⟩
    · refine br_split (fun h => ⟨?_, rfl⟩) (fun h => ⟨?_, rfl⟩)
      · have : k = 3 := by simpa using h
        subst this
        rfl
      · have : ¬ k = 3 := by simpa using h
        simp [this]
    rintro u b69 w16 ⟨rfl, rfl⟩
    refine br_split (fun h34 => ?_) (fun h34 => br_split (fun h5k => ?_) (fun h5k => ?_))
    · -- Down
      refine nn_ok <| ldP_ok (c0 h5) <| call_mono (weak_Down_ok (h := n) h5 (by omega) hn.1 hn.2) ?_
      rintro _ w8 ⟨s', m, e, rfl, hD, h6⟩
      have h6 := WT.mono (M := N + 1) (by omega) h6
      refine ⟨_, _, rfl, ?_⟩
      rcases atW_cases ok hr n with ⟨hno, hat⟩ | ⟨i, y, kk, bb, j, q, hat, hj⟩ <;> rw [hat]
      · cases hD with
        | last q => exact (hno _ q.bl).elim
        | more q => exact (hno _ q.bl).elim
        | no _ => exact br_true (by decide) <| br_true rfl ⟨rfl, _, rfl, fin (toRT h6)⟩
      · have h7 := h6.perm (B := blk br (rtA pL rr L.length cL) T_tenonref12_Table * (tab T_tenonref12_Block 4 rbF pL L.length cL L * (RAr rr (z0 s) * (WT b a r (N + 1) s' * (blk k1 (acL x).toArray T_tenonlaw12_Act * (blk pb (prA b br p hs.length c) T_tenonlaw12_Pair * (tab T_uint64 1 fU64 p hs.length c hs * F))))))) (by ac_rfl)
        refine br_false (by simp) <| nn_ok <| ldP_ok (c1 h6) ?_
        cases hD with
        | no hno => exact (hno _ q.bl).elim
        | @last i' y' kk' bb' q' e1 =>
          obtain rfl := Bl.one ok.ok q.bl q'.bl
          refine call_mono (rt_Down_ok h7 ok (by omega) hr q' hj) ?_
          rintro _ w9 ⟨rfl, hd, _⟩
          exact asI_ok <| br_true (by simp [e1]) ⟨rfl, _, (drop_len q'.get).2, fin (hd e1)⟩
        | @more i' y' kk' bb' q' e1 =>
          obtain rfl := Bl.one ok.ok q.bl q'.bl
          refine call_mono (rt_Down_ok h7 ok (by omega) hr q' hj) ?_
          rintro _ w9 ⟨rfl, _, hd⟩
          exact asI_ok <| br_true (by simp) ⟨rfl, _, setX_len.2, fin (hd e1)⟩
    · -- Die
      have h6 := h5.drew
      have h7 := h6.perm (B := blk br (rtA pL rr L.length cL) T_tenonref12_Table * (tab T_tenonref12_Block 4 rbF pL L.length cL L * (RAr rr (z0 s) * (WT b a r N s * (blk k1 (acL x).toArray T_tenonlaw12_Act * (blk pb (prA b br p hs.length c) T_tenonlaw12_Pair * (tab T_uint64 1 fU64 p hs.length c hs * F))))))) (by ac_rfl)
      refine nn_ok <| ldP_ok (c1 h6) <| ldI_ok (cx 2 h6 rfl) <| call_mono (rt_Living_ok (t := x.tg) h7 hsm) ?_
      rintro _ w8 ⟨rfl, ⟨rfl, hno⟩ | ⟨j, ⟨h, bb⟩, rfl, hj, ht, hd⟩⟩
      · refine asI_ok <| br_false (by decide) <| nn_ok <| ldP_ok (c0 h6.drew) <| ldI_ok (cx 2 h6.drew rfl) <| call_mono (weak_Die_ok (t := x.tg) h6.drew) ?_
        rintro _ w9 ⟨s', d, rfl, hD, h8⟩
        cases hD with
        | yes q e1 e2 => exact (hno _ ((hr.mem _ _).2 q.bl) e1 e2).elim
        | no _ => exact asB_ok ⟨rfl, _, rfl, fin (toRT (WT.mono (M := N + 1) (by omega) h8))⟩
      · have hj' : L[(j : Int).toNat]? = some (h, bb) := by rw [Int.toNat_natCast]; exact hj
        have hbl := (hr.mem _ _).1 (List.mem_of_getElem? hj)
        refine asI_ok <| br_true (by simp) <| nn_ok <| ldP_ok (c1 h6) <| nn_ok <| ldS_ok (h7.left.cell (i := 1) rfl) <| tab_idx rbF_len h7.right.left (by decide) (by omega) hj' fun g hg => ?_
        rw [Int.toNat_natCast]
        refine tab_st rbF_len (y' := (h, { bb with dead := true })) h7.p1 hg hj (by decide) rfl fun w9 h8 => ?_
        have h8 := (h8.p1).drew
        have h9 := h8.perm (B := WT b a r N s * ((blk br (rtA pL rr L.length cL) T_tenonref12_Table * (tab T_tenonref12_Block 4 rbF pL L.length cL (L.set j (h, { bb with dead := true })) * RAr rr (z0 s))) * (blk k1 (acL x).toArray T_tenonlaw12_Act * (blk pb (prA b br p hs.length c) T_tenonlaw12_Pair * (tab T_uint64 1 fU64 p hs.length c hs * F))))) (by ac_rfl)
        refine nn_ok <| ldP_ok (c0 h9) <| ldI_ok (cx 2 h9 rfl) <| call_mono (weak_Die_ok (t := x.tg) h9) ?_
        rintro _ w10 ⟨s', d, rfl, hD, h10⟩
        cases hD with
        | no hno => exact (hno _ _ hbl ht hd).elim
        | @yes h' i' y' kk' bb' q' e1 e2 =>
          have a1 := (hf x.tg h).2 ⟨bb, hbl, ht, hd⟩
          have a2 := (hf x.tg h').2 ⟨bb', q'.bl, e1, e2⟩
          obtain rfl : h = h' := Option.some.inj (a1.symm.trans a2)
          obtain rfl := Bl.one ok.ok hbl q'.bl
          have h11 := WT.mono (M := N + 1) (by omega) h10
          have h12 := RT.shut (b := br) (r := rr) (hr.setX ok q' hj { bb with dead := true }) (h11.perm (B := blk br (rtA pL rr L.length cL) T_tenonref12_Table * (tab T_tenonref12_Block 4 rbF pL L.length cL (L.set j (h, { bb with dead := true })) * (RAr rr (z0 (setX s i' (some (kk', { bb with dead := true })))) * (WT b a r (N + 1) (setX s i' (some (kk', { bb with dead := true }))) * (blk k1 (acL x).toArray T_tenonlaw12_Act * (blk pb (prA b br p hs.length c) T_tenonlaw12_Pair * (tab T_uint64 1 fU64 p hs.length c hs * F))))))) (by rw [z0_setX q']; ac_rfl))
          exact asB_ok ⟨by simp, _, setX_len.2, fin h12⟩
    · -- Lock
      refine nn_ok <| ldP_ok (c0 h5) <| call_mono (weak_Lock_ok (h := n) h5 hn.1 hn.2) ?_
      rintro _ w8 ⟨rfl, t, e, rfl, hL⟩
      have h6 := WT.mono (M := N + 1) (by omega) h5
      refine ⟨_, _, rfl, ?_⟩
      rcases atW_cases ok hr n with ⟨hno, hat⟩ | ⟨i, y, kk, bb, j, q, hat, hj⟩ <;> rw [hat]
      · cases hL with
        | dead hb => exact (hno _ hb).elim
        | live hb => exact (hno _ hb).elim
        | no _ => exact br_true (by decide) <| br_true rfl ⟨rfl, _, rfl, fin (toRT h6)⟩
      · have hj' : L[(j : Int).toNat]? = some (n, bb) := by rw [Int.toNat_natCast]; exact hj
        have h7 := h6.perm (B := blk br (rtA pL rr L.length cL) T_tenonref12_Table * (tab T_tenonref12_Block 4 rbF pL L.length cL L * (RAr rr (z0 s) * (WT b a r (N + 1) s * (blk k1 (acL x).toArray T_tenonlaw12_Act * (blk pb (prA b br p hs.length c) T_tenonlaw12_Pair * (tab T_uint64 1 fU64 p hs.length c hs * F))))))) (by ac_rfl)
        refine br_false (by simp) <| nn_ok <| ldP_ok (c1 h6) <| nn_ok <| ldS_ok (h7.left.cell (i := 1) rfl) <| tab_idx rbF_len h7.right.left (by decide) (by omega) hj' fun g hg => ldB_ok (tab_cell rbF_len (j := 2) h7.right.left hg hj' (by decide) rfl) ?_
        cases hL with
        | no hno => exact (hno _ q.bl).elim
        | dead hb hd =>
          obtain rfl := Bl.one ok.ok q.bl hb
          exact br_true hd <| br_true rfl ⟨rfl, _, rfl, fin (toRT h6)⟩
        | live hb hd =>
          obtain rfl := Bl.one ok.ok q.bl hb
          exact br_false hd <| nn_ok <| ldP_ok (c1 h6) <| nn_ok <| ldS_ok (h7.left.cell (i := 1) rfl) <| tab_idx rbF_len h7.right.left (by decide) (by omega) hj' fun g hg => ldI_ok (tab_cell rbF_len (j := 1) h7.right.left hg hj' (by decide) rfl) <| br_true (by simp) ⟨rfl, _, rfl, fin (toRT h6)⟩
end
end Go.Proofs.Ytiogdefiokmmkaa
