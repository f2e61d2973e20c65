/- ObjrefOrder: the contracts of both orders; the walk. No conditions. -/
import Derived.Test.YtgkdlglpkfoeeaaO8
import Derived.Test.YtgkdlglpkfoeeaaO4
set_option linter.unusedVariables false
set_option linter.unusedSimpArgs false
set_option maxRecDepth 100000
namespace Go.Proofs.Ytgkdlglpkfoeeaa
open Go.Sp Go.RowKit

def orI (a b : Int) : Int := if a ≠ 0 then a else b
def g1 (x : ORef) : List Int := (x.bs.drop 0).take 16
def g2 (x : ORef) : List Int := (x.bs.drop 16).take 16
def kL (x : ORef) : List Int := x.ox :: x.oid :: (g1 x ++ (g2 x ++ [x.fl, x.rf]))
theorem g_len {x : ORef} (hx : OIn x) : (g1 x).length = 16 ∧ (g2 x).length = 16 := by
  have := hx.len
  simp [g1, g2, this]
theorem g_by {x : ORef} (hx : OIn x) : (∀ b ∈ g1 x, 0 ≤ b ∧ b ≤ 255) ∧ (∀ b ∈ g2 x, 0 ≤ b ∧ b ≤ 255) :=
  ⟨fun b hb => hx.by_ b (List.mem_of_mem_drop (List.mem_of_mem_take hb)), fun b hb => hx.by_ b (List.mem_of_mem_drop (List.mem_of_mem_take hb))⟩
theorem kL_len {x y : ORef} (hx : OIn x) (hy : OIn y) : (kL x).length = (kL y).length := by
  simp [kL, (g_len hx).1, (g_len hx).2, (g_len hy).1, (g_len hy).2]
theorem kL_inj {x y : ORef} (hx : OIn x) (hy : OIn y) (h : kL x = kL y) : x = y := by
  unfold kL at h
  obtain ⟨h1, h⟩ := List.cons.inj h
  obtain ⟨h2, h⟩ := List.cons.inj h
  obtain ⟨h3, h⟩ := List.append_inj h (by rw [(g_len hx).1, (g_len hy).1])
  obtain ⟨h4, h⟩ := List.append_inj h (by rw [(g_len hx).2, (g_len hy).2])
  simp at h
  exact (ORef.eq_iff x y).1 ⟨h.1, h.2, h1, h2, (halves hx.len hy.len).1 ⟨h3, h4⟩⟩
theorem cmp_kL {x y : ORef} (hx : OIn x) (hy : OIn y) : cmpL (kL x) (kL y) = orI (cmpI x.ox y.ox) (orI (cmpI x.oid y.oid) (orI (cmpL (g1 x) (g1 y)) (orI (cmpL (g2 x) (g2 y)) (orI (cmpI x.fl y.fl) (orI (cmpI x.rf y.rf) 0))))) := by
  unfold kL
  rw [cmpL_cons, cmpL_cons, cmpL_append (by rw [(g_len hx).1, (g_len hy).1]), cmpL_append (by rw [(g_len hx).2, (g_len hy).2]), cmpL_cons, cmpL_cons]
  rfl
def lessO (x y : ORef) : Bool := decide (cmpL (kL x) (kL y) < 0)
theorem cmp_Compare_ok (x y : Int) : PureCall Try.prog fn_cmp_Compare #[.int .u64 x, .int .u64 y] (.int .i64 (cmpI x y)) := by
  intro w
  apply cmp_Compare_call
  unfold cmp_Compare
  have hn : ∀ x, PureCall Try.prog fn_cmp_isNaN #[.int .u64 x] (.bool false) := fun x w => by
    apply cmp_isNaN_call
    unfold cmp_isNaN
    exact ⟨by simp, rfl⟩
  refine call_pure (hn x) <| asB_ok <| call_pure (hn y) <| asB_ok <| br_false rfl <| br_false rfl <| br_dec (fun h => ⟨by rw [cmpI, if_pos h], rfl⟩) (fun h => br_dec (fun h2 => ⟨by rw [cmpI, if_neg h, if_pos h2], rfl⟩) (fun h2 => ⟨by rw [cmpI, if_neg h, if_neg h2], rfl⟩))
theorem cmp_Compare_1_ok (x y : Int) : PureCall Try.prog fn_cmp_Compare_1 #[.int .u32 x, .int .u32 y] (.int .i64 (cmpI x y)) := by
  intro w
  apply cmp_Compare_1_call
  unfold cmp_Compare_1
  have hn : ∀ x, PureCall Try.prog fn_cmp_isNaN_1 #[.int .u32 x] (.bool false) := fun x w => by
    apply cmp_isNaN_1_call
    unfold cmp_isNaN_1
    exact ⟨by simp, rfl⟩
  refine call_pure (hn x) <| asB_ok <| call_pure (hn y) <| asB_ok <| br_false rfl <| br_false rfl <| br_dec (fun h => ⟨by rw [cmpI, if_pos h], rfl⟩) (fun h => br_dec (fun h2 => ⟨by rw [cmpI, if_neg h, if_pos h2], rfl⟩) (fun h2 => ⟨by rw [cmpI, if_neg h, if_neg h2], rfl⟩))
section
variable {w₀ w : World} {F : HP}
theorem slc16 {k : Nat} {K : Option Addr → Nat → Nat → Prop} (h : K (some ⟨k, 0, none⟩) 16 16) : slc (some (⟨k, 0, none⟩ : Addr)) 16 1 0 16 K := by
  refine slc_ok (by omega) (by omega) (by omega) ?_
  have e : (if 16 = Int.toNat 0 then (some (⟨k, 0, none⟩ : Addr)) else (some (⟨k, 0, none⟩ : Addr)).map (·.add (Int.toNat 0 * 1))) = some ⟨k, 0, none⟩ := by
    simp [Addr.add]
  rw [e]
  exact h
theorem guid_Compare_ok {a b : List Int} (h : Sat w₀ F w) (la : a.length = 16) (lb : b.length = 16) (ha : ∀ x ∈ a, 0 ≤ x ∧ x ≤ 255) (hb : ∀ x ∈ b, 0 ≤ x ∧ x ≤ 255) :
    call Try.prog fn_guid_Compare #[.agg (by8 a).toArray, .agg (by8 b).toArray] w fun v w' => v = .int .i64 (cmpL a b) ∧ Sat w₀ F w' := by
  apply guid_Compare_call
  unfold guid_Compare
  refine new_ok h fun k1 w1 h1 => new_ok h1 fun k2 w2 h2 => slc16 <| slc16 ?_
  have h3 := h2.drew
  have r1 : Rd w2.drew 1 (some ⟨k1, 0, none⟩) 16 (by8 a) := Sat.rd_ob (sz := 1) (l := 16) h3.right.left (by simp [by8_length, la])
  have r2 : Rd w2.drew 1 (some ⟨k2, 0, none⟩) 16 (by8 b) := Sat.rd_ob (sz := 1) (l := 16) h3.left (by simp [by8_length, lb])
  refine call_mono (bytes_Compare_ok r1 r2 (by decide) ha hb) ?_
  rintro _ w3 ⟨rfl, rfl⟩
  exact asI_ok ⟨rfl, h3.right.right⟩
theorem tenonref01_Compare_ok {a b : List Int} (h : Sat w₀ F w) (la : a.length = 16) (lb : b.length = 16) :
    call Try.prog fn_tenonref01_Compare #[.agg (by8 a).toArray, .agg (by8 b).toArray] w fun v w' => v = .int .i64 (cmpL a b) ∧ Sat w₀ F w' := by
  apply tenonref01_Compare_call
  unfold tenonref01_Compare
  refine new_ok h fun k1 w1 h1 => new_ok h1 fun k2 w2 h2 => ?_
  have h2 : Sat w₀ (blk k2 (by8 b).toArray 25 * (blk k1 (by8 a).toArray 25 * F)) w2 := h2
  refine ⟨fun n w m => 0 ≤ n ∧ n ≤ 16 ∧ m = 16 - n.toNat ∧ a.take n.toNat = b.take n.toNat ∧ Sat w₀ (blk k2 (by8 b).toArray 25 * (blk k1 (by8 a).toArray 25 * F)) w, ⟨_, by omega, by omega, rfl, by simp, h2⟩, ?_⟩
  rintro u n w3 m ⟨h0, hn, rfl, ht, h3⟩
  refine br_dec (fun hlt => ?_) (fun hge => ?_)
  · have ea : a[n.toNat]? = some (a[n.toNat]'(by omega)) := by simp
    have eb : b[n.toNat]? = some (b[n.toNat]'(by omega)) := by simp
    have ca : ∀ {w}, Sat w₀ (blk k2 (by8 b).toArray 25 * (blk k1 (by8 a).toArray 25 * F)) w → w.cell? ((⟨k1, 0, none⟩ : Addr).add (n.toNat * 1)) = some (.int .u8 (a[n.toNat]'(by omega))) := fun h => by
      rw [Nat.mul_one]
      exact cell_blk h.right (by rw [List.getElem?_toArray]; exact by8_get ea)
    have cb : ∀ {w}, Sat w₀ (blk k2 (by8 b).toArray 25 * (blk k1 (by8 a).toArray 25 * F)) w → w.cell? ((⟨k2, 0, none⟩ : Addr).add (n.toNat * 1)) = some (.int .u8 (b[n.toNat]'(by omega))) := fun h => by
      rw [Nat.mul_one]
      exact cell_blk h (by rw [List.getElem?_toArray]; exact by8_get eb)
    have h4 := h3.drew
    have h5 := h4.drew
    refine ⟨⟨h0, hlt⟩, ldI_ok (ca h4) ⟨⟨h0, hlt⟩, ldI_ok (cb h4) <| br_dec (fun hl => ?_) (fun hl => ?_)⟩⟩
    · exact ⟨by rw [cmpL_at ht ea eb (by omega), if_pos hl], h4.right.right⟩
    · refine ⟨⟨h0, hlt⟩, ldI_ok (ca h5) ⟨⟨h0, hlt⟩, ldI_ok (cb h5) <| br_dec (fun hg => ?_) (fun hg => ?_)⟩⟩
      · exact ⟨by rw [cmpL_at ht ea eb (by omega), if_neg hl], h5.right.right⟩
      · refine arith_i64 (by omega) (by omega) ⟨_, by omega, by omega, by omega, rfl, ?_, h5⟩
        rw [show (n + 1).toNat = n.toNat + 1 by omega, List.take_add_one, List.take_add_one, ht, ea, eb, show a[n.toNat]'(by omega) = b[n.toNat]'(by omega) by omega]
  · rw [List.take_of_length_le (by omega), List.take_of_length_le (by omega)] at ht
    subst ht
    exact ⟨by rw [cmpL_self], h3.right.right⟩
theorem cmp_Or_ok {p : Option Addr} {l c : Nat} {ns : List Int} (hr : Rd w 1 p l (ns.map fun n => .int .i64 n)) (hl : l ≤ 100) :
    call Try.prog fn_cmp_Or #[.slice p l c] w fun v w' => v = .int .i64 (ns.foldr orI 0) ∧ w' = w := by
  apply cmp_Or_call
  unfold cmp_Or
  have hlen : ns.length = l := by have := hr.1; simpa using this
  refine ⟨fun n w' m => 0 ≤ n ∧ n ≤ l ∧ m = l - n.toNat ∧ ns.foldr orI 0 = (ns.drop n.toNat).foldr orI 0 ∧ w' = w, ⟨_, by omega, by omega, rfl, by simp, rfl⟩, ?_⟩
  rintro u n w1 m ⟨h0, hn, rfl, he, rfl⟩
  refine br_dec (fun hlt => ?_) (fun hge => ?_)
  · have hi : n.toNat < ns.length := by omega
    rw [List.drop_eq_getElem_cons hi, List.foldr_cons] at he
    refine idx_ok hr h0 hlt fun a ha => ?_
    have hc : w1.cell? (a.add (n.toNat * 1)) = some (.int .i64 ns[n.toNat]) := by
      rw [Nat.mul_one]
      exact hr.get ha (by simp [hi])
    refine ldI_ok hc <| br_split (fun hz => ?_) (fun hz => ?_)
    · have hz : ns[n.toNat] ≠ 0 := by simpa using hz
      exact ⟨by rw [he, orI, if_pos hz], rfl⟩
    · have hz : ns[n.toNat] = 0 := by simpa using hz
      refine arith_i64 (by omega) (by omega) ⟨_, by omega, by omega, by omega, rfl, ?_, rfl⟩
      rw [he, hz, show (n + 1).toNat = n.toNat + 1 by omega]
      rfl
  · rw [List.drop_of_length_le (by omega)] at he
    exact ⟨by rw [he]; rfl, rfl⟩
theorem orF_part {x : ORef} (hx : OIn x) (o : Nat) (ho : o + 16 ≤ 32) : ∀ i, i < ((by8 ((x.bs.drop o).take 16)).toArray).size → (orF x)[4 + o + i]? = (by8 ((x.bs.drop o).take 16)).toArray[i]? := by
  intro i hi
  have hl := hx.len
  have hi : i < 16 := by simp [by8_length] at hi; omega
  rw [Nat.add_assoc, orF_byte]
  simp [by8, List.getElem?_take, List.getElem?_drop, hi, show o + i < x.bs.length by omega]
theorem objref_Less_ok {x y : ORef} (h : Sat w₀ F w) (hx : OIn x) (hy : OIn y) :
    call Try.prog fn_objref_Less #[.agg (orF x), .agg (orF y)] w fun v w' => v = .bool (lessO x y) ∧ Sat w₀ F w' := by
  apply objref_Less_call
  unfold objref_Less
  refine new_ok h fun k1 w1 h1 => new_ok h1 fun k2 w2 h2 => ?_
  have h2 : Sat w₀ (blk k2 (orF y) 27 * (blk k1 (orF x) 27 * F)) w2 := h2
  have c2 : ∀ {w : World} {v : Value}, Sat w₀ (blk k2 (orF y) 27 * (blk k1 (orF x) 27 * F)) w → ∀ i, (orF y)[i]? = some v → w.cell? ((⟨k2, 0, none⟩ : Addr).add i) = some v := fun h i e => cell_blk h e
  have c1 : ∀ {w : World} {v : Value}, Sat w₀ (blk k2 (orF y) 27 * (blk k1 (orF x) 27 * F)) w → ∀ i, (orF x)[i]? = some v → w.cell? ((⟨k1, 0, none⟩ : Addr).add i) = some v := fun h i e => cell_blk h.right e
  have h3 := h2.drew
  have lx := g_len hx
  have ly := g_len hy
  have bx := g_by hx
  have by_ := g_by hy
  refine ldI_ok (c1 h3 2 rfl) <| ldI_ok (c2 h3 2 rfl) <| ldI_ok (c1 h3 3 rfl) <| ldI_ok (c2 h3 3 rfl) <| ldG h3.right hx 0 (by omega) <| ldG h3 hy 0 (by omega) <| ldG h3.right hx 16 (by omega) <| ldG h3 hy 16 (by omega) <| ldI_ok (c1 h3 0 rfl) <| ldI_ok (c2 h3 0 rfl) <| ldI_ok (c1 h3 1 rfl) <| ldI_ok (c2 h3 1 rfl) <| call_pure (cmp_Compare_ok _ _) <| asI_ok ⟨c2 h3 1 rfl, c1 h3 1 rfl, c2 h3 0 rfl, c1 h3 0 rfl, ?_⟩
  have kp : ∀ {w : World} {X : Prop}, Sat w₀ (blk k2 (orF y) 27 * (blk k1 (orF x) 27 * F)) w → X → keepS (cellsOf ((⟨k2, 0, none⟩ : Addr).add 20) (by8 ((y.bs.drop 16).take 16)).toArray) w (keepS (cellsOf ((⟨k1, 0, none⟩ : Addr).add 20) (by8 ((x.bs.drop 16).take 16)).toArray) w X) := fun h hX => keepS_blk (o := 20) h (orF_part hy 16 (by omega)) <| keepS_blk (o := 20) h.right (orF_part hx 16 (by omega)) hX
  have kq : ∀ {w : World} {X : Prop}, Sat w₀ (blk k2 (orF y) 27 * (blk k1 (orF x) 27 * F)) w → X → keepS (cellsOf ((⟨k2, 0, none⟩ : Addr).add 4) (by8 ((y.bs.drop 0).take 16)).toArray) w (keepS (cellsOf ((⟨k1, 0, none⟩ : Addr).add 4) (by8 ((x.bs.drop 0).take 16)).toArray) w X) := fun h hX => keepS_blk (o := 4) h (orF_part hy 0 (by omega)) <| keepS_blk (o := 4) h.right (orF_part hx 0 (by omega)) hX
  refine kp h3 <| kq h3 ⟨c2 h3 3 rfl, c1 h3 3 rfl, call_pure (cmp_Compare_ok _ _) <| asI_ok ⟨c2 h3 1 rfl, c1 h3 1 rfl, c2 h3 0 rfl, c1 h3 0 rfl, kp h3 <| kq h3 <| call_mono (guid_Compare_ok h3 lx.1 ly.1 bx.1 by_.1) ?_⟩⟩
  rintro _ w4 ⟨rfl, h4⟩
  refine asI_ok ⟨c2 h4 1 rfl, c1 h4 1 rfl, c2 h4 0 rfl, c1 h4 0 rfl, kp h4 <| call_mono (guid_Compare_ok h4 lx.2 ly.2 bx.2 by_.2) ?_⟩
  rintro _ w5 ⟨rfl, h5⟩
  refine asI_ok ⟨c2 h5 1 rfl, c1 h5 1 rfl, c2 h5 0 rfl, c1 h5 0 rfl, call_pure (cmp_Compare_1_ok _ _) <| asI_ok ⟨c2 h5 1 rfl, c1 h5 1 rfl, call_pure (cmp_Compare_1_ok _ _) <| asI_ok <| new_ok h5 fun k27 w6 h6 => ?_⟩⟩
  have r : Rd w6 1 (some ⟨k27, 0, none⟩) 6 ([cmpI x.ox y.ox, cmpI x.oid y.oid, cmpL (g1 x) (g1 y), cmpL (g2 x) (g2 y), cmpI x.fl y.fl, cmpI x.rf y.rf].map fun n => .int .i64 n) := Sat.rd_ob (sz := 1) (l := 6) h6.left rfl
  refine call_mono (cmp_Or_ok r (by decide)) ?_
  rintro _ w7 ⟨rfl, rfl⟩
  refine asI_ok ⟨?_, h6.right.right.right⟩
  rw [lessO, cmp_kL hx hy]
  rfl
theorem still_guid {a b : List Int} (la : a.length = 16) (lb : b.length = 16) {K : Bool → Prop} (hk : K (decide (a = b))) : still Try.prog (Op.equal T_api_Guid (.agg (by8 a).toArray) (.agg (by8 b).toArray)) K := by
  refine ⟨_, fun w => ?_, hk⟩
  obtain ⟨d, hd⟩ : ∃ d, Op.maxDepth = d + 1 + 1 := ⟨9998, by kernel_rfl⟩
  unfold Op.equal
  rw [hd]
  exact eq_guid la lb d w
theorem tenonref07_Less_ok {x y : ORef} (h : Sat w₀ F w) (hx : OIn x) (hy : OIn y) :
    call Try.prog fn_tenonref07_Less #[.agg (orF x), .agg (orF y)] w fun v w' => v = .bool (lessO x y) ∧ Sat w₀ F w' := by
  apply tenonref07_Less_call
  unfold tenonref07_Less
  refine new_ok h fun k1 w1 h1 => new_ok h1 fun k2 w2 h2 => ?_
  have h2 : Sat w₀ (blk k2 (orF y) 27 * (blk k1 (orF x) 27 * F)) w2 := h2
  have c2 : ∀ {v : Value}, ∀ i, (orF y)[i]? = some v → w2.cell? ((⟨k2, 0, none⟩ : Addr).add i) = some v := fun i e => cell_blk h2 e
  have c1 : ∀ {v : Value}, ∀ i, (orF x)[i]? = some v → w2.cell? ((⟨k1, 0, none⟩ : Addr).add i) = some v := fun i e => cell_blk h2.right e
  have lx := g_len hx
  have ly := g_len hy
  have ci : ∀ a b : Int, a ≠ b → cmpI a b ≠ 0 ∧ decide (cmpI a b < 0) = decide (a < b) := by
    intro a b hne
    unfold cmpI
    by_cases h1 : a < b
    · simp [h1]
    · rw [if_neg h1, if_pos (by omega)]
      simp [h1]
  have ce : ∀ a : Int, cmpI a a = 0 := fun a => by simp [cmpI]
  rw [lessO, cmp_kL hx hy]
  refine ldI_ok (c1 2 rfl) <| ldI_ok (c2 2 rfl) <| br_split (fun hne => ?_) (fun he => ?_)
  · have hne : x.ox ≠ y.ox := by simpa using hne
    refine ldI_ok (c1 2 rfl) <| ldI_ok (c2 2 rfl) ⟨?_, h2.right.right⟩
    rw [orI, if_pos (ci _ _ hne).1, (ci _ _ hne).2]
  have he : x.ox = y.ox := by simpa using he
  rw [he, ce, orI, if_neg (by simp)]
  refine ldI_ok (c1 3 rfl) <| ldI_ok (c2 3 rfl) <| br_split (fun hne => ?_) (fun he => ?_)
  · have hne : x.oid ≠ y.oid := by simpa using hne
    refine ldI_ok (c1 3 rfl) <| ldI_ok (c2 3 rfl) ⟨?_, h2.right.right⟩
    rw [orI, if_pos (ci _ _ hne).1, (ci _ _ hne).2]
  have he : x.oid = y.oid := by simpa using he
  rw [he, ce, orI, if_neg (by simp)]
  refine ldG h2.right hx 0 (by omega) <| ldG h2 hy 0 (by omega) <| still_guid (a := g1 x) (b := g1 y) lx.1 ly.1 <| br_split (fun hne => ?_) (fun he => ?_)
  · have hne : g1 x ≠ g1 y := by simpa using hne
    have hz : cmpL (g1 x) (g1 y) ≠ 0 := fun e => hne ((cmpL_zero (by omega)).1 e)
    refine ldG h2.right hx 0 (by omega) <| ldG h2 hy 0 (by omega) <| call_mono (tenonref01_Compare_ok h2.right.right lx.1 ly.1) ?_
    rintro _ w3 ⟨rfl, h3⟩
    refine asI_ok ⟨?_, h3⟩
    rw [orI, if_pos hz]
    rfl
  have he : g1 x = g1 y := by simpa using he
  rw [he, cmpL_self, orI, if_neg (by simp)]
  refine ldG h2.right hx 16 (by omega) <| ldG h2 hy 16 (by omega) <| still_guid (a := g2 x) (b := g2 y) lx.2 ly.2 <| br_split (fun hne => ?_) (fun he => ?_)
  · have hne : g2 x ≠ g2 y := by simpa using hne
    have hz : cmpL (g2 x) (g2 y) ≠ 0 := fun e => hne ((cmpL_zero (by omega)).1 e)
    refine ldG h2.right hx 16 (by omega) <| ldG h2 hy 16 (by omega) <| call_mono (tenonref01_Compare_ok h2.right.right lx.2 ly.2) ?_
    rintro _ w3 ⟨rfl, h3⟩
    refine asI_ok ⟨?_, h3⟩
    rw [orI, if_pos hz]
    rfl
  have he : g2 x = g2 y := by simpa using he
  rw [he, cmpL_self, orI, if_neg (by simp)]
  refine ldI_ok (c1 0 rfl) <| ldI_ok (c2 0 rfl) <| br_split (fun hne => ?_) (fun he => ?_)
  · have hne : x.fl ≠ y.fl := by simpa using hne
    refine ldI_ok (c1 0 rfl) <| ldI_ok (c2 0 rfl) ⟨?_, h2.right.right⟩
    rw [orI, if_pos (ci _ _ hne).1, (ci _ _ hne).2]
  have he : x.fl = y.fl := by simpa using he
  rw [he, ce, orI, if_neg (by simp)]
  refine ldI_ok (c1 1 rfl) <| ldI_ok (c2 1 rfl) ⟨?_, h2.right.right⟩
  by_cases e : x.rf = y.rf
  · rw [e, ce]; simp [orI]
  · rw [orI, if_pos (ci _ _ e).1, (ci _ _ e).2]
end
theorem less_self (x : ORef) : lessO x x = false := by simp [lessO, cmpL_self]
theorem less_one {x y : ORef} (h : lessO x y = true) : lessO y x = false := by
  unfold lessO at *
  rw [cmpL_neg (kL x) (kL y)]
  simp at *
  omega
theorem less_all {x y : ORef} (hx : OIn x) (hy : OIn y) (hne : x ≠ y) (h : lessO x y = false) : lessO y x = true := by
  unfold lessO at *
  have h0 : cmpL (kL x) (kL y) ≠ 0 := fun e => hne (kL_inj hx hy ((cmpL_zero (kL_len hx hy)).1 e))
  rw [cmpL_neg (kL x) (kL y)]
  simp at *
  omega
theorem less_trans {x y z : ORef} (h1 : lessO x y = true) (h2 : lessO y z = true) : lessO x z = true := by
  unfold lessO at *
  have r1 := cmpL_range (kL x) (kL y)
  have r2 := cmpL_range (kL y) (kL z)
  simp at h1 h2
  rw [cmpL_trans (kL x) (kL y) (kL z) (by omega) (by omega)]
  rfl
theorem ObjrefOrder_walk {W : World} {x y z : ORef} (hx : OIn x) (hy : OIn y) (hz : OIn z) :
    call Try.prog fn_tenonlaw07_ObjrefOrder #[.agg (orF x), .agg (orF y), .agg (orF z)] W fun v w' => v = .bool true ∧ Below W.heap.size W w' := by
  apply tenonlaw07_ObjrefOrder_call
  unfold tenonlaw07_ObjrefOrder
  refine new_ok (Sat.start W) fun k1 w1 h1 => new_ok h1 fun k2 w2 h2 => new_ok h2 fun k3 w3 h3 => ?_
  have l1 : ∀ {w : World} {K : Array Value → Prop}, Sat W (blk k3 (orF z) 27 * (blk k2 (orF y) 27 * (blk k1 (orF x) 27 * old W))) w → K (orF x) → ldA (⟨k1, 0, none⟩ : Addr) 36 w K := fun h hk => ldO h.right.right hx hk
  have l2 : ∀ {w : World} {K : Array Value → Prop}, Sat W (blk k3 (orF z) 27 * (blk k2 (orF y) 27 * (blk k1 (orF x) 27 * old W))) w → K (orF y) → ldA (⟨k2, 0, none⟩ : Addr) 36 w K := fun h hk => ldO h.right hy hk
  have l3 : ∀ {w : World} {K : Array Value → Prop}, Sat W (blk k3 (orF z) 27 * (blk k2 (orF y) 27 * (blk k1 (orF x) 27 * old W))) w → K (orF z) → ldA (⟨k3, 0, none⟩ : Addr) 36 w K := fun h hk => ldO h hz hk
  have h3 : Sat W (blk k3 (orF z) 27 * (blk k2 (orF y) 27 * (blk k1 (orF x) 27 * old W))) w3 := h3
  have done : ∀ {w : World}, Sat W (blk k3 (orF z) 27 * (blk k2 (orF y) 27 * (blk k1 (orF x) 27 * old W))) w → call Try.prog 10 #[] w fun v w' => asB v fun b => (Value.bool b) = .bool true ∧ Below W.heap.size W w' := by
    intro w h
    refine call_mono (tenonlaw07_awake_ok h) ?_
    rintro _ w' ⟨rfl, h'⟩
    exact asB_ok ⟨rfl, h'.right.right.right.below'⟩
  refine ⟨fun w => Sat W (blk k3 (orF z) 27 * (blk k2 (orF y) 27 * (blk k1 (orF x) 27 * old W))) w, ?_, ?_⟩
  · have h4 := h3.drew
    refine l1 h4 <| l2 h4 <| l1 h4 <| l2 h4 <| call_mono (objref_Less_ok h4 hx hy) ?_
    rintro _ w4 ⟨rfl, h5⟩
    refine asB_ok <| keepS_blk0 h5.right <| keepS_blk0 h5.right.right <| call_mono (tenonref07_Less_ok h5 hx hy) ?_
    rintro _ w5 ⟨rfl, h6⟩
    refine asB_ok <| br_false (by simp) <| l1 h6 <| l1 h6 <| call_mono (objref_Less_ok h6 hx hx) ?_
    rintro _ w6 ⟨rfl, h7⟩
    refine asB_ok <| br_false (less_self x) <| l1 h7 <| l2 h7 <| call_mono (objref_Less_ok h7 hx hy) ?_
    rintro _ w7 ⟨rfl, h8⟩
    refine asB_ok <| br_split (fun hl => l2 h8 <| l1 h8 <| call_mono (objref_Less_ok h8 hy hx) ?_) (fun _ => h8)
    rintro _ w8 ⟨rfl, h9⟩
    exact asB_ok <| br_false (less_one hl) h9
  rintro u w9 h9
  refine ⟨fun w => Sat W (blk k3 (orF z) 27 * (blk k2 (orF y) 27 * (blk k1 (orF x) 27 * old W))) w, ?_, ?_⟩
  · refine l1 h9 <| l2 h9 <| still_eq hx hy <| br_split (fun hne => ?_) (fun _ => h9)
    have hne : x ≠ y := by simpa using hne
    refine l1 h9 <| l2 h9 <| call_mono (objref_Less_ok h9 hx hy) ?_
    rintro _ w10 ⟨rfl, h10⟩
    refine asB_ok <| br_split (fun hl => l2 h10 <| l1 h10 <| call_mono (objref_Less_ok h10 hy hx) ?_) (fun _ => h10)
    rintro _ w11 ⟨rfl, h11⟩
    exact asB_ok <| br_false (by rw [less_all hx hy hne (by simpa using hl)]; rfl) h11
  rintro u w12 h12
  refine l1 h12 <| l2 h12 <| call_mono (objref_Less_ok h12 hx hy) ?_
  rintro _ w13 ⟨rfl, h13⟩
  refine asB_ok <| br_split (fun _ => done h13) (fun hl1 => l2 h13 <| l3 h13 <| call_mono (objref_Less_ok h13 hy hz) ?_)
  rintro _ w15 ⟨rfl, h15⟩
  refine asB_ok <| br_split (fun _ => done h15) (fun hl2 => l1 h15 <| l3 h15 <| call_mono (objref_Less_ok h15 hx hz) ?_)
  rintro _ w17 ⟨rfl, h17⟩
  exact asB_ok <| br_true (less_trans (by simpa using hl1) (by simpa using hl2)) (done h17)
theorem ObjrefOrder_row {W : World} {v1 v2 v3 : Value} (h1 : ∃ x, v1 = .agg (orF x) ∧ OIn x) (h2 : ∃ x, v2 = .agg (orF x) ∧ OIn x) (h3 : ∃ x, v3 = .agg (orF x) ∧ OIn x) :
    call Try.prog fn_tenonlaw07_ObjrefOrder #[v1, v2, v3] W fun v w' => v = .bool true ∧ Below W.heap.size W w' := by
  obtain ⟨x, rfl, hx⟩ := h1
  obtain ⟨y, rfl, hy⟩ := h2
  obtain ⟨z, rfl, hz⟩ := h3
  exact ObjrefOrder_walk hx hy hz
end Go.Proofs.Ytgkdlglpkfoeeaa
