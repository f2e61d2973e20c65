
/- Objrefs: arguments, equality, as things in a slice (for seats that have O1 to O3). No conditions. -/
import Derived.Test.YtjjnbcdcppnllaaO3
import Derived.Test.YtjjnbcdcppnllaaOp
import Derived.Test.YtjjnbcdcppnllaaSpB
import Derived.Laws.StructEq
import Derived.ChangeKeysEq
set_option linter.unusedVariables false
set_option linter.unusedSimpArgs false
set_option maxRecDepth 100000
namespace Go.Proofs.Ytjjnbcdcppnllaa
open Go.Sp Go.RowKit

section
open Go.ChangeShapes Go.WideShapes Go.Deep
variable {H : Type} {enc : TypeId × Value → H} {W : World} {base : Nat}
theorem open_bytes16 {fuel : Nat} {cs : List Value} {x : DataW H × List MemPlace} (h : DataW.trod enc Try.prog W 0 (fun _ => true) true fuel T_api_Guid cs = some x) : ∃ bs : List Int, cs = by8 bs ∧ bs.length = 16 ∧ ∀ b ∈ bs, 0 ≤ b ∧ b ≤ 255 := by
  obtain ⟨xs, m, _, _, hl, hxl, hx⟩ := DataW.trod_array Try.underlying32 h
  have hc1 : Try.prog.cellsOf T_uint8 = 1 := by kernel_rfl
  have hc16 : Try.prog.cellsOf T_api_Guid = 16 := by kernel_rfl
  rw [hc16] at hl
  obtain ⟨bs, hbl, hb⟩ := collect (P := fun i (z : Int) => cs[i]? = some (.int .u8 z) ∧ 0 ≤ z ∧ z ≤ 255) 16 (fun i hi => by
    have h1 := hx i hi
    rw [hc1, Nat.mul_one] at h1
    have hlt : i < cs.length := by omega
    rw [List.drop_eq_getElem_cons hlt, List.take_succ_cons, List.take_zero] at h1
    have h2 : xs[i]? = some (xs[i]'(by omega)) := by simp [show i < xs.length by omega]
    rw [h2] at h1
    obtain ⟨z, hz, _, hw⟩ := DataW.trod_int Try.underlying5 h1
    simp only [List.cons.injEq, and_true] at hz
    have hr := wf_range hw
    simp [IntKind.min, IntKind.max, IntKind.signed, IntKind.bits] at hr
    exact ⟨z, by rw [← hz]; simp [hlt], hr⟩)
  refine ⟨bs, ?_, hbl, fun b hm => ?_⟩
  · apply List.ext_getElem?
    intro i
    by_cases hi : i < 16
    · have h2 : bs[i]? = some (bs[i]'(by omega)) := by simp [show i < bs.length by omega]
      rw [(hb i _ h2).1]
      simp [by8, h2]
    · rw [List.getElem?_eq_none (by omega), List.getElem?_eq_none (by rw [by8_length]; omega)]
  · obtain ⟨i, hi⟩ := List.mem_iff_getElem?.1 hm
    exact (hb i b hi).2
theorem open_ORc {fuel : Nat} {l : List Value} {x : DataW H × List MemPlace} (h : DataW.trod enc Try.prog W 0 (fun _ => true) true fuel T_api_Objref l = some x) (hl : l.length = 36) :
    ∃ x : ORef, l = orL x ++ by8 x.bs ∧ OIn x := by
  have hu := Try.underlying77
  match l, hl with
  | c0 :: c1 :: c2 :: c3 :: rest, hl =>
    obtain ⟨_, _, f0⟩ := field_cell hu h 0 rfl (by kernel_rfl) (v := c0) rfl
    obtain ⟨_, _, f1⟩ := field_cell hu h 1 rfl (by kernel_rfl) (v := c1) rfl
    obtain ⟨_, _, f2⟩ := field_cell hu h 2 rfl (by kernel_rfl) (v := c2) rfl
    obtain ⟨_, _, f3⟩ := field_cell hu h 3 rfl (by kernel_rfl) (v := c3) rfl
    obtain ⟨m0, h0, _, w0⟩ := DataW.trod_int Try.underlying75 f0
    obtain ⟨m1, h1, _, w1⟩ := DataW.trod_int Try.underlying75 f1
    obtain ⟨m2, h2, _, w2⟩ := DataW.trod_int Try.underlying30 f2
    obtain ⟨m3, h3, _, w3⟩ := DataW.trod_int Try.underlying30 f3
    obtain ⟨xs, n, _, _, _, hxl, hx⟩ := DataW.trod_struct hu h
    have hxl : xs.length = 6 := hxl
    have hg : Try.prog.cellsOf T_api_Guid = 16 := by kernel_rfl
    have x4 := hx 4 _ rfl
    have x5 := hx 5 _ rfl
    rw [show xs[4]? = some (xs[4]'(by omega)) by simp [show 4 < xs.length by omega]] at x4
    rw [show xs[5]? = some (xs[5]'(by omega)) by simp [show 5 < xs.length by omega]] at x5
    obtain ⟨b4, e4, l4, r4⟩ := open_bytes16 x4
    obtain ⟨b5, e5, l5, r5⟩ := open_bytes16 x5
    have g4 : rest.take 16 = by8 b4 := by
      have : ((c0 :: c1 :: c2 :: c3 :: rest).drop 4).take (Try.prog.cellsOf T_api_Guid) = by8 b4 := e4
      rw [hg] at this
      simpa using this
    have g5 : rest.drop 16 = by8 b5 := by
      have : ((c0 :: c1 :: c2 :: c3 :: rest).drop 20).take (Try.prog.cellsOf T_api_Guid) = by8 b5 := e5
      rw [hg] at this
      have h20 : (c0 :: c1 :: c2 :: c3 :: rest).drop 20 = rest.drop 16 := by simp
      rw [h20, List.take_of_length_le (by simp at hl ⊢; omega)] at this
      exact this
    simp only [List.cons.injEq, and_true] at h0 h1 h2 h3
    subst h0 h1 h2 h3
    have q0 := wf_range w0
    have q1 := wf_range w1
    have q2 := wf_range w2
    have q3 := wf_range w3
    simp [IntKind.min, IntKind.max, IntKind.signed, IntKind.bits] at q0 q1 q2 q3
    refine ⟨⟨m0, m1, m2, m3, b4 ++ b5⟩, ?_, ⟨q0, q1, q2, q3, by simp [l4, l5], fun b hb => ?_⟩⟩
    · show _ = orL _ ++ by8 (b4 ++ b5)
      rw [by8_append, ← g4, ← g5, List.take_append_drop]
      rfl
    · rcases List.mem_append.1 hb with hb | hb
      · exact r4 b hb
      · exact r5 b hb
theorem open_Objref {v : Value} {d : DataW H} {ps : List MemPlace} (hv : Value.okWide Try.prog W .any base T_api_Objref v) (h : DataW.Trod enc Try.prog W 0 (fun _ => true) true T_api_Objref v d ps) :
    ∃ x, v = .agg (orF x) ∧ OIn x := by
  have hu := Try.underlying77
  obtain ⟨cs, rfl, hsz⟩ := okWide_struct hu hv
  obtain ⟨fuel, h⟩ := h
  have hc : Try.prog.cellsOf T_api_Objref = 36 := by kernel_rfl
  have hl : cs.toList.length = 36 := by simpa [hc] using hsz
  have h : DataW.trod enc Try.prog W 0 (fun _ => true) true fuel T_api_Objref cs.toList = some (d, ps) := h
  obtain ⟨x, e, hx⟩ := open_ORc h hl
  refine ⟨x, ?_, hx⟩
  congr 1
  apply Array.ext'
  rw [e]
  simp [orF]
end
theorem ORef.eq_iff (a b : ORef) : (a.fl = b.fl ∧ a.rf = b.rf ∧ a.ox = b.ox ∧ a.oid = b.oid ∧ a.bs = b.bs) ↔ a = b := by
  cases a; cases b; simp
instance : DecidableEq ORef := fun a b => decidable_of_iff _ (ORef.eq_iff a b)

theorem eqItems8 {a b : List Int} (d : Nat) (w : World) : ∀ (is : List Nat), (∀ i ∈ is, i < a.length ∧ i < b.length) →
    (Op.eqItems (d + 1) T_uint8 (Try.prog.cellsOf T_uint8) (by8 a).toArray (by8 b).toArray is).run Try.prog w = .ok (decide (∀ i ∈ is, a[i]? = b[i]?)) w
  | [], _ => by simp [Op.eqItems]
  | i :: is, h => by
    have ih := eqItems8 (a := a) (b := b) d w is fun j hj => h j (.tail _ hj)
    obtain ⟨h1, h2⟩ := h i (.head _)
    have hc1 : Try.prog.cellsOf T_uint8 = 1 := by kernel_rfl
    have hu := Try.underlying5
    have p1 : (part T_uint8 (by8 a).toArray (i * Try.prog.cellsOf T_uint8)).run Try.prog w = .ok (.int .u8 a[i]) w := run_part hu (by unfold shapeOf; rw [hu]; simp) (by rw [hc1]; simp [by8, h1]) w
    have p2 : (part T_uint8 (by8 b).toArray (i * Try.prog.cellsOf T_uint8)).run Try.prog w = .ok (.int .u8 b[i]) w := run_part hu (by unfold shapeOf; rw [hu]; simp) (by rw [hc1]; simp [by8, h2]) w
    have p3 := run_equalIn_int w d T_uint8 .u8 .u8 a[i] b[i] hu
    simp only [Op.eqItems, Sem.run_bind, p1, p2, p3, Result.andThen_ok]
    by_cases e : a[i] = b[i]
    · simp [e, ih, h1, h2]
    · simp [e, h1, h2]
theorem eq_guid {a b : List Int} (la : a.length = 16) (lb : b.length = 16) (d : Nat) (w : World) :
    (Op.equalIn (d + 1 + 1) T_api_Guid (.agg (by8 a).toArray) (.agg (by8 b).toArray)).run Try.prog w = .ok (decide (a = b)) w := by
  have hf : Try.prog.info? T_uint8 = some (Try.prog.types[T_uint8]'(of_decide_eq_true (by kernel_rfl))) := by kernel_rfl
  rw [run_equalIn_array w (d + 1) _ _ Try.underlying32 hf, eqItems8 d w _ (fun i hi => by rw [List.mem_range] at hi; omega)]
  congr 1
  rw [Bool.eq_iff_iff]
  simp only [decide_eq_true_eq, List.mem_range]
  constructor
  · intro h
    apply List.ext_getElem?
    intro i
    by_cases hi : i < 16
    · exact h i hi
    · rw [List.getElem?_eq_none (by omega), List.getElem?_eq_none (by omega)]
  · rintro rfl i _
    rfl
theorem eqF_cons {d : Nat} {xs ys : Array Value} {f : Field} {fs : List Field} {w : World} {a b : Value} {r : Bool} (hn : f.name ≠ "_") (ha : (part f.type xs f.offset).run Try.prog w = .ok a w) (hb : (part f.type ys f.offset).run Try.prog w = .ok b w) (he : (Op.equalIn d f.type a b).run Try.prog w = .ok r w) :
    (Op.eqFields d xs ys (f :: fs)).run Try.prog w = if r = true then (Op.eqFields d xs ys fs).run Try.prog w else .ok false w := by
  simp only [Op.eqFields, if_pos hn, Sem.run_bind, ha, hb, he, Result.andThen_ok]
  cases r <;> simp
theorem part_guid {x : ORef} (hx : OIn x) (o : Nat) (ho : o + 16 ≤ 32) (w : World) : (part T_api_Guid (orF x) (4 + o)).run Try.prog w = .ok (.agg (by8 ((x.bs.drop o).take 16)).toArray) w := by
  have hu := Try.underlying32
  have hf : Try.prog.info? T_api_Guid = some (Try.prog.types[T_api_Guid]'(of_decide_eq_true (by kernel_rfl))) := by kernel_rfl
  have hsz : (Try.prog.types[T_api_Guid]'(of_decide_eq_true (by kernel_rfl))).size = 16 := by kernel_rfl
  have h1 : (orF x).extract (4 + o) (4 + o + 16) = (by8 ((x.bs.drop o).take 16)).toArray := by
    apply Array.ext'
    rw [Array.toList_extract, List.extract_eq_take_drop]
    show ((orL x ++ by8 x.bs).drop (4 + o)).take (4 + o + 16 - (4 + o)) = by8 ((x.bs.drop o).take 16)
    rw [List.drop_append, List.drop_of_length_le (by simp [orL]), List.nil_append, show 4 + o - (orL x).length = o by simp [orL], show 4 + o + 16 - (4 + o) = 16 by omega]
    simp [by8, List.map_take, List.map_drop]
  have := shapeOf_agg (P := Try.prog) (t := T_api_Guid) (by unfold shapeOf; rw [hu])
  simp [part, this, run_sizeOf' hf, hsz, h1]
theorem halves {a b : List Int} (la : a.length = 32) (lb : b.length = 32) : ((a.drop 0).take 16 = (b.drop 0).take 16 ∧ (a.drop 16).take 16 = (b.drop 16).take 16) ↔ a = b := by
  constructor
  · rintro ⟨h1, h2⟩
    have e : ∀ {c : List Int}, c.length = 32 → (c.drop 0).take 16 ++ (c.drop 16).take 16 = c := by
      intro c hc
      rw [List.drop_zero, List.take_of_length_le (l := c.drop 16) (by simp; omega), List.take_append_drop]
    rw [← e la, ← e lb, h1, h2]
  · rintro rfl
    exact ⟨rfl, rfl⟩
theorem eq_fin {x y : ORef} (hx : OIn x) (hy : OIn y) {A : Result Bool} {w : World} (hA : A = .ok true w) :
    (if (x.fl == y.fl) = true then if (x.rf == y.rf) = true then if (x.ox == y.ox) = true then if (x.oid == y.oid) = true then if decide ((x.bs.drop 0).take 16 = (y.bs.drop 0).take 16) = true then if decide ((x.bs.drop 16).take 16 = (y.bs.drop 16).take 16) = true then A else .ok false w else .ok false w else .ok false w else .ok false w else .ok false w else .ok false w) = .ok (decide (x = y)) w := by
  subst hA
  have hh := halves hx.len hy.len
  have hiff := ORef.eq_iff x y
  rw [← hh] at hiff
  by_cases h0 : x.fl = y.fl
  · by_cases h1 : x.rf = y.rf
    · by_cases h2 : x.ox = y.ox
      · by_cases h3 : x.oid = y.oid
        · by_cases h4 : (x.bs.drop 0).take 16 = (y.bs.drop 0).take 16
          · by_cases h5 : (x.bs.drop 16).take 16 = (y.bs.drop 16).take 16
            · have : x = y := hiff.1 ⟨h0, h1, h2, h3, h4, h5⟩
              subst this
              simp
            · have : x ≠ y := fun e => h5 (hiff.2 e).2.2.2.2.2
              simp only [h0, h1, h2, h3, h4, h5, this, decide_true, decide_false, beq_self_eq_true, if_true, Bool.false_eq_true, if_false]
          · have : x ≠ y := fun e => h4 (hiff.2 e).2.2.2.2.1
            simp only [h0, h1, h2, h3, h4, this, decide_true, decide_false, beq_self_eq_true, if_true, Bool.false_eq_true, if_false]
        · have : x ≠ y := fun e => h3 (hiff.2 e).2.2.2.1
          simp [h0, h1, h2, h3, this]
      · have : x ≠ y := fun e => h2 (hiff.2 e).2.2.1
        simp [h0, h1, h2, this]
    · have : x ≠ y := fun e => h1 (hiff.2 e).2.1
      simp [h0, h1, this]
  · have : x ≠ y := fun e => h0 (hiff.2 e).1
    simp [h0, this]
theorem eq_or {x y : ORef} (hx : OIn x) (hy : OIn y) (w : World) : (Op.equal T_api_Objref (.agg (orF x)) (.agg (orF y))).run Try.prog w = .ok (decide (x = y)) w := by
  obtain ⟨d, hd⟩ : ∃ d, Op.maxDepth = d + 1 + 1 + 1 := ⟨9997, by kernel_rfl⟩
  have e : Op.equal T_api_Objref (.agg (orF x)) (.agg (orF y)) = Op.equalIn (d + 1 + 1 + 1) T_api_Objref (.agg (orF x)) (.agg (orF y)) := by
    unfold Op.equal
    rw [hd]
  have hp : Try.prog.stoodInHeld T_api_Objref = false := by kernel_rfl
  have hu := Try.underlying77
  have hfo' : ∀ {fs}, Try.prog.underlying T_api_Objref = some (.struct fs) → Try.prog.fieldsOf T_api_Objref = fs := by
    intro fs h
    unfold Program.fieldsOf
    rw [h]
  have hfo := hfo' hu
  rw [e, run_equalIn_struct w (d + 1 + 1) T_api_Objref _ _ (by rw [hfo]; exact hu) hp, hfo]
  have pI : ∀ (t : TypeId) (k : IntKind) (hu : Try.prog.underlying t = some (.int k)) (z : ORef) (i : Nat) (n : Int), (orF z)[i]? = some (.int k n) → (part t (orF z) i).run Try.prog w = .ok (.int k n) w := by
    intro t k hu z i n hz
    exact run_part hu (by unfold shapeOf; rw [hu]; simp) hz w
  have lg : ∀ {z : ORef}, OIn z → ∀ o, o + 16 ≤ 32 → ((z.bs.drop o).take 16).length = 16 := by
    intro z hz o ho
    have := hz.len
    simp
    omega
  have hU32 := Try.underlying75
  have hU64 := Try.underlying30
  have c0 : ∀ fs, (Op.eqFields (d + 1 + 1) (orF x) (orF y) (⟨"Flags", T_uint32, 0, false, "", "", 0⟩ :: fs)).run Try.prog w = _ := fun fs => eqF_cons (by decide) (pI _ _ hU32 x 0 x.fl rfl) (pI _ _ hU32 y 0 y.fl rfl) (run_equalIn_int w (d + 1) _ .u32 .u32 _ _ hU32)
  have c1 : ∀ fs, (Op.eqFields (d + 1 + 1) (orF x) (orF y) (⟨"Refs", T_uint32, 1, false, "", "", 4⟩ :: fs)).run Try.prog w = _ := fun fs => eqF_cons (by decide) (pI _ _ hU32 x 1 x.rf rfl) (pI _ _ hU32 y 1 y.rf rfl) (run_equalIn_int w (d + 1) _ .u32 .u32 _ _ hU32)
  have c2 : ∀ fs, (Op.eqFields (d + 1 + 1) (orF x) (orF y) (⟨"Oxid", T_uint64, 2, false, "", "", 8⟩ :: fs)).run Try.prog w = _ := fun fs => eqF_cons (by decide) (pI _ _ hU64 x 2 x.ox rfl) (pI _ _ hU64 y 2 y.ox rfl) (run_equalIn_int w (d + 1) _ .u64 .u64 _ _ hU64)
  have c3 : ∀ fs, (Op.eqFields (d + 1 + 1) (orF x) (orF y) (⟨"Oid", T_uint64, 3, false, "", "", 16⟩ :: fs)).run Try.prog w = _ := fun fs => eqF_cons (by decide) (pI _ _ hU64 x 3 x.oid rfl) (pI _ _ hU64 y 3 y.oid rfl) (run_equalIn_int w (d + 1) _ .u64 .u64 _ _ hU64)
  have c4 : ∀ fs, (Op.eqFields (d + 1 + 1) (orF x) (orF y) (⟨"Ipid", T_api_Guid, 4, false, "", "", 24⟩ :: fs)).run Try.prog w = _ := fun fs => eqF_cons (by decide) (part_guid hx 0 (by omega) w) (part_guid hy 0 (by omega) w) (eq_guid (lg hx 0 (by omega)) (lg hy 0 (by omega)) d w)
  have c5 : ∀ fs, (Op.eqFields (d + 1 + 1) (orF x) (orF y) (⟨"Iid", T_api_Guid, 20, false, "", "", 40⟩ :: fs)).run Try.prog w = _ := fun fs => eqF_cons (by decide) (part_guid hx 16 (by omega) w) (part_guid hy 16 (by omega) w) (eq_guid (lg hx 16 (by omega)) (lg hy 16 (by omega)) d w)
  refine (c0 _).trans ?_
  rw [c1, c2, c3, c4, c5]
  exact eq_fin hx hy (by simp [Op.eqFields])
theorem still_eq {x y : ORef} (hx : OIn x) (hy : OIn y) {K : Bool → Prop} (hk : K (decide (x = y))) : still Try.prog (Op.equal T_api_Objref (.agg (orF x)) (.agg (orF y))) K := ⟨_, fun w => eq_or hx hy w, hk⟩

/-- An Objref that may be an argument. -/
abbrev OR := { x : ORef // OIn x }
def orC (x : OR) : List Value := (orF x.1).toList
theorem orC_len (x : OR) : (orC x).length = 36 := by have := orF_size x.2; simpa [orC] using this
theorem by8_one' (bs : List Int) : ∀ u ∈ by8 bs, u.oneCell' = true := by8_one bs
theorem orC_one (x : OR) : ∀ u ∈ orC x, u.oneCell' = true := by
  intro u hu
  have hu : u ∈ orL x.1 ++ by8 x.1.bs := by simpa [orC, orF] using hu
  rcases List.mem_append.1 hu with hu | hu
  · simp [orL] at hu
    rcases hu with rfl | rfl | rfl | rfl <;> rfl
  · exact by8_one _ u hu
theorem orC_arr (x : OR) : (orC x).toArray = orF x.1 := by simp [orC]
def or0 : OR := ⟨⟨0, 0, 0, 0, List.replicate 32 0⟩, ⟨by decide, by decide, by decide, by decide, by decide, by decide⟩⟩
theorem or_eq {x y : OR} {K : Bool → Prop} (hk : K (decide (x = y))) : still Try.prog (Op.equal T_api_Objref (.agg (orF x.1)) (.agg (orF y.1))) K := by
  refine still_eq x.2 y.2 ?_
  have e : decide (x.1 = y.1) = decide (x = y) := by
    by_cases h : x = y
    · subst h; simp
    · have : x.1 ≠ y.1 := fun e => h (Subtype.ext e)
      simp [h, this]
  rw [e]
  exact hk
end Go.Proofs.Ytjjnbcdcppnllaa
