/- WireWrites: the walk. No conditions. -/
import Derived.Test.YtagcmablmogofaaW2
import Derived.Test.YtagcmablmogofaaOp
set_option linter.unusedVariables false
set_option linter.unusedSimpArgs false
namespace Go.Proofs.Ytagcmablmogofaa
open Go.Sp Go.RowKit

/-- An item. -/
structure ItemD where
  isText : Bool
  n : Int
  size : Int
  p : Option Addr
  l : Nat
  c : Nat
  bs : List Int
structure ItemAt (w : World) (a : Addr) (x : ItemD) : Prop where
  c0 : w.cell? a = some (.bool x.isText)
  c1 : w.cell? (a.add 1) = some (.int .u64 x.n)
  c2 : w.cell? (a.add 2) = some (.int .i64 x.size)
  c3 : w.cell? (a.add 3) = some (.slice x.p x.l x.c)
  rd : Rd w 1 x.p x.l (by8 x.bs)
  n0 : 0 ≤ x.n
  n1 : x.n ≤ 18446744073709551615
  by0 : ∀ b ∈ x.bs, 0 ≤ b ∧ b ≤ 255
  s0 : -9223372036854775808 ≤ x.size
  s1 : x.size ≤ 9223372036854775807
structure Items (w : World) (p : Option Addr) (l : Nat) (xs : List ItemD) : Prop where
  len : xs.length = l
  ptr : 0 < l → ∃ a, p = some a
  at_ : ∀ a, p = some a → ∀ i x, xs[i]? = some x → ItemAt w (a.add (i * 4)) x
theorem ItemAt.old {w₀ w W : World} {a : Addr} {x : ItemD} (h : ItemAt W a x) (hs : Sat w₀ (old W) w) : ItemAt w a x :=
  ⟨hs.old_cell h.c0, hs.old_cell h.c1, hs.old_cell h.c2, hs.old_cell h.c3, h.rd.old hs, h.n0, h.n1, h.by0, h.s0, h.s1⟩
theorem Items.idx {w₀ w W : World} {p : Option Addr} {l : Nat} {xs : List ItemD} {i : Int} {K : Addr → Prop} (h : Items W p l xs) (hs : Sat w₀ (old W) w) (h0 : 0 ≤ i) (h1 : i < (l : Int))
    (hk : ∀ a x, xs[i.toNat]? = some x → ItemAt w a x → ItemAt W a x → K a) : Sp.idx p l i 4 K := by
  obtain ⟨a, rfl⟩ := h.ptr (by omega)
  have hlt : i.toNat < xs.length := by rw [h.len]; omega
  have hx := h.at_ a rfl i.toNat xs[i.toNat] (by simp [hlt])
  exact ⟨⟨h0, h1⟩, hk _ _ (by simp [hlt]) (hx.old hs) hx⟩

theorem Items.idx' {w₀ w W : World} {p : Option Addr} {l : Nat} {xs : List ItemD} {i : Int} {x : ItemD} {K : Addr → Prop} (h : Items W p l xs) (hs : Sat w₀ (old W) w) (h0 : 0 ≤ i) (h1 : i < (l : Int)) (hx : xs[i.toNat]? = some x)
    (hk : ∀ a, ItemAt w a x → K a) : Sp.idx p l i 4 K :=
  h.idx hs h0 h1 fun a y hy ha _ => by
    obtain rfl := Option.some.inj (hx.symm.trans hy)
    exact hk a ha

theorem great_ok {w₀ w W : World} {F : HP} {p : Option Addr} {l c : Nat} {xs : List ItemD} (h : Sat w₀ F w) (hs : ∀ w', Sat w₀ F w' → Sat w₀ (old W) w') (hx : Items W p l xs) (hl : l ≤ 9223372036854775807) :
    call Try.prog fn_tenonlaw05_great #[.slice p l c] w fun v w' => ∃ b, v = .bool b ∧ (b = false → ∀ i x, i < 100 → xs[i]? = some x → x.l ≤ 70000) ∧ Sat w₀ F w' := by
  apply tenonlaw05_great_call
  unfold tenonlaw05_great
  refine ⟨fun n i w' m => 0 ≤ i ∧ i ≤ 100 ∧ i ≤ l ∧ m = 100 - i.toNat ∧ 0 ≤ n ∧ n ≤ 70000 * i ∧ (∀ (j : Nat) x, j < i.toNat → xs[j]? = some x → x.l ≤ 70000) ∧ Sat w₀ F w', ⟨100, by omega, by omega, by omega, by omega, by omega, by omega, fun j x hj => absurd hj (by simp), h⟩, ?_⟩
  rintro u n i w1 m ⟨h0, h1, h2, rfl, hn0, hn1, hall, h3⟩
  refine br_dec (fun hlt => br_dec (fun hlt2 => ?_) (fun hge => ⟨_, rfl, fun _ j x hj hx => hall j x (by omega) hx, h3⟩)) (fun hge => ⟨_, rfl, fun _ j x hj hxj => hall j x ?_ hxj, h3⟩)
  case refine_2 => have := (List.getElem?_eq_some_iff.1 hxj).1; have := hx.len; omega
  refine hx.idx (hs _ h3) h0 hlt fun a x hxa ha _ => ldS_ok ha.c3 (br_dec (fun hb => ⟨_, rfl, fun h => (by cases h), h3⟩) fun hb => ?_)
  refine hx.idx (hs _ h3) h0 hlt fun a2 x2 hxa2 ha2 _ => ldS_ok ha2.c3 ?_
  obtain rfl := Option.some.inj (hxa.symm.trans hxa2)
  refine arith_i64 (by omega) (by omega) (arith_i64 (by omega) (by omega) ⟨_, by omega, by omega, by omega, by omega, rfl, by omega, by omega, fun j y hj hy => ?_, h3⟩)
  by_cases e : j < i.toNat
  · exact hall j y e hy
  · have e2 : j = i.toNat := by omega
    subst e2
    obtain rfl := Option.some.inj (hxa.symm.trans hy)
    omega

/-- What is laid, item by item. -/
def layItem (bs : List Int) (x : ItemD) : List Int :=
  if x.isText = true then (if x.l ≤ 65535 then bs ++ form bs.length x.l 4 ++ x.bs else bs) else if (fitsB x.size && roomB x.n x.size) = true then bs ++ form bs.length x.n x.size else bs
theorem layItem_length (bs : List Int) (x : ItemD) (h : x.bs.length = x.l) : (layItem bs x).length ≤ bs.length + 65560 := by
  unfold layItem
  split
  · split
    · have hg := gapI_le (a := bs.length) (s := 4) (by omega)
      have := form_length bs.length x.l 4 (by omega)
      simp only [List.length_append]
      omega
    · omega
  · split
    · rename_i hh
      simp only [Bool.and_eq_true] at hh
      have hs := fitsB_true hh.1
      have hg := gapI_le (a := bs.length) (s := x.size) (by omega)
      have := form_length bs.length x.n x.size (by omega)
      simp only [List.length_append]
      omega
    · omega

theorem WireWrites_walk {W : World} {p : Option Addr} {l c : Nat} {xs : List ItemD} (hx : Items W p l xs) (hl : l ≤ 9223372036854775807) :
    call Try.prog fn_tenonlaw05_WireWrites #[.slice p l c] W fun v w' => v = .bool true ∧ Below W.heap.size W w' := by
  have h := Sat.start W
  apply tenonlaw05_WireWrites_call
  unfold tenonlaw05_WireWrites
  refine call_mono (great_ok h (fun _ h => h) hx hl) ?_
  rintro _ w1 ⟨b, rfl, hsm, h1⟩
  have done : ∀ {w F}, Sat W (old W * F) w → ∀ {w'}, Sat W (old W * F) w' → Below W.heap.size W w' := fun _ _ h => h.below
  refine asB_ok (br_split (fun hb => ?_) (fun hb => ?_))
  · refine call_mono (tenonlaw05_awake_ok h1) ?_
    rintro _ w2 ⟨rfl, h2⟩
    exact asB_ok ⟨rfl, (h2.with_emp.perm (sep_comm _ _)).below⟩
  refine call_mono (wire_NewWriter_ok h1) ?_
  rintro _ w2 ⟨g, rfl, h2⟩
  refine asP_ok ⟨fun q l d w => ∃ bs : List Int, l = bs.length ∧ bs.length ≤ 1099511627776 ∧ Sat W (own T_uint8 1 q l d (by8 bs) * (Wr g bs * old W)) w, ?_, ?_⟩
  · refine ⟨fun q l d i w m => ∃ bs : List Int, l = bs.length ∧ 0 ≤ i ∧ i ≤ 100 ∧ m = 100 - i.toNat ∧ (bs.length : Int) ≤ 65560 * i ∧ Sat W (own T_uint8 1 q l d (by8 bs) * (Wr g bs * old W)) w,
      ⟨100, [], rfl, by omega, by omega, rfl, by simp, h2.own_nil _ _⟩, ?_⟩
    rintro u q l d i w3 m ⟨bs, rfl, h0, h1, rfl, hlen, h3⟩
    have hO : ∀ {F w'}, Sat W (F * old W) w' → Sat W (old W) w' := fun h => h.right
    refine br_dec (fun hlt => br_dec (fun hlt2 => ?_) (fun hge => ⟨bs, rfl, by omega, h3⟩)) (fun hge => ⟨bs, rfl, by omega, h3⟩)
    refine hx.idx h3.right.right h0 hlt fun a x hxa ha hA => ?_
    refine ldA_ok (vs := #[.bool x.isText, .int .u64 x.n, .int .i64 x.size, .slice x.p x.l x.c]) rfl ?_ ?_
    · intro j hj
      match j, hj with
      | 0, _ => simpa [add_zero] using ha.c0
      | 1, _ => simpa using ha.c1
      | 2, _ => simpa using ha.c2
      | 3, _ => simpa using ha.c3
    refine new_ok h3 fun k w4 h4 => stA_ok h4 rfl rfl (by simp [Value.oneCell']) fun w5 h5 => ?_
    have hcell : ∀ {w F}, Sat W (blk k #[.bool x.isText, .int .u64 x.n, .int .i64 x.size, .slice x.p x.l x.c] T_tenonlaw05_Item * F) w → ∀ j v, #[Value.bool x.isText, .int .u64 x.n, .int .i64 x.size, .slice x.p x.l x.c][j]? = some v → w.cell? ((⟨k, 0, none⟩ : Addr).add j) = some v := by
      intro w F h j v hv
      rw [add_mk, Nat.zero_add]
      exact h.left.cell hv
    have hxl := ha.rd.len8
    have hx7 := hsm hb i.toNat x (by omega) hxa
    have next : ∀ {w A bs'}, Sat W (own T_uint8 1 q l d (by8 bs') * A) w → True := fun _ => trivial
    refine ldB_ok (hcell h5 0 _ rfl) (br_split (fun ht => ?_) (fun ht => ?_))
    · refine ldS_ok (hcell h5 3 _ rfl) (call_mono (tenonref01_Lent_ok h5 (Gives.right (Gives.right (Gives.right (Gives.old hA.rd)))) (by omega)) ?_)
      rintro _ w6 ⟨q1, d1, rfl, hd1, h6⟩
      have hg : Gives (old W) 1 x.p x.l (by8 x.bs) := Gives.old hA.rd
      by_cases h65 : x.l ≤ 65535
      · refine asS_ok (call_mono (wire_Text_ok h6.p3 (Gives.left (Lnt.gives hxl)) h65 (by omega)) ?_)
        rintro _ w7 ⟨rfl, h7⟩
        refine asI_ok (ldS_ok (hcell h7.p2 3 _ rfl) (call_mono (tenonref01_Kept_ok h7.p1 hxl hd1 (Gives.right (Gives.right (Gives.right hg))) (by omega)) ?_))
        rintro _ w8 ⟨rfl, h8⟩
        refine asB_ok <| br_false rfl <| ldS_ok (hcell h8.p2 3 _ rfl) <| br_false (by simp; omega) <| br_false rfl <| br_true rfl <| ldS_ok (hcell h8.p2 3 _ rfl) <| call_mono (tenonref05_Text_ok h8 (Gives.right (Gives.right (Gives.right (Gives.left Gives.own)))) (Gives.right (Gives.right (Gives.right (Gives.right hg)))) (by omega) h65) ?_
        rintro _ w9 ⟨q2, d2, rfl, h9⟩
        refine asS_ok (arith_i64 (by omega) (by omega) ⟨_, by omega, _, rfl, by omega, by omega, rfl, ?_, ?_⟩)
        · have hg := gapI_le (a := bs.length) (s := 4) (by omega)
          have := form_length bs.length x.l 4 (by omega)
          simp only [List.length_append]
          omega
        · exact h9.p1.right.p2.right.p2.right
      · refine asS_ok (call_mono (wire_Text_no h6 (by omega)) ?_)
        rintro _ w7 ⟨rfl, h7⟩
        refine asI_ok (ldS_ok (hcell h7.p1 3 _ rfl) (call_mono (tenonref01_Kept_ok h7 hxl hd1 (Gives.right (Gives.right (Gives.right hg))) (by omega)) ?_))
        rintro _ w8 ⟨rfl, h8⟩
        refine asB_ok <| br_false rfl <| ldS_ok (hcell h8.p1 3 _ rfl) <| br_false (by simp; omega) <| br_true rfl <| br_false rfl <| br_false rfl ?_
        exact arith_i64 (by omega) (by omega) ⟨_, by omega, bs, rfl, by omega, by omega, rfl, by omega, h8.right.right⟩
    · refine ldI_ok (hcell h5 1 _ rfl) (ldI_ok (hcell h5 2 _ rfl) ?_)
      cases hok : (fitsB x.size && roomB x.n x.size) with
      | true =>
        simp only [Bool.and_eq_true] at hok
        refine call_mono (wire_Num_ok h5.p2 hok.1 ha.n0 (roomB_true ha.n0 hok.2) (by omega)) ?_
        rintro _ w6 ⟨rfl, h6⟩
        have hs := fitsB_true hok.1
        refine asI_ok ⟨fun b w' => b = true ∧ w' = w6, ?_, ?_⟩
        · exact ldI_ok (hcell h6.p1 2 _ rfl) <| call_pure (tenonref05_Fits_ok x.size) <| asB_ok <| br_true hok.1 <| ldI_ok (hcell h6.p1 1 _ rfl) <| ldI_ok (hcell h6.p1 2 _ rfl) <|
            call_pure (tenonref05_Room_ok _ _ ha.n0 ha.n1 (by omega) (by omega)) <| asB_ok ⟨hok.2, rfl⟩
        rintro u _ w6 ⟨rfl, rfl⟩
        refine br_false rfl <| br_false rfl <| br_true rfl <| ldI_ok (hcell h6.p1 1 _ rfl) <| ldI_ok (hcell h6.p1 2 _ rfl) <| call_mono (tenonref05_Num_ok h6 (Gives.right (Gives.right (Gives.left Gives.own))) hok.1 ha.n0 ha.n1 (by omega)) ?_
        rintro _ w7 ⟨q2, d2, rfl, h7⟩
        refine asS_ok (arith_i64 (by omega) (by omega) ⟨_, by omega, _, rfl, by omega, by omega, rfl, ?_, ?_⟩)
        · have hg := gapI_le (a := bs.length) (s := x.size) (by omega)
          have := form_length bs.length x.n x.size (by omega)
          simp only [List.length_append]
          omega
        · exact h7.p2.right.p2.right
      | false =>
        refine call_mono (wire_Num_no h5 hok ha.n0 ha.n1) ?_
        rintro _ w6 ⟨rfl, h6⟩
        refine asI_ok ⟨fun b w' => b = false ∧ w' = w6, ?_, ?_⟩
        · refine ldI_ok (hcell h6 2 _ rfl) <| call_pure (tenonref05_Fits_ok x.size) <| asB_ok ?_
          cases hf : fitsB x.size with
          | true =>
            have hs := fitsB_true hf
            rw [hf] at hok
            have hr : roomB x.n x.size = false := by simpa using hok
            exact br_true rfl <| ldI_ok (hcell h6 1 _ rfl) <| ldI_ok (hcell h6 2 _ rfl) <| call_pure (tenonref05_Room_ok _ _ ha.n0 ha.n1 (by omega) (by omega)) <| asB_ok ⟨hr, rfl⟩
          | false => exact br_false rfl ⟨rfl, rfl⟩
        rintro u _ w6 ⟨rfl, rfl⟩
        exact br_false rfl <| br_true rfl <| br_false rfl <| br_false rfl <| arith_i64 (by omega) (by omega) ⟨_, by omega, bs, rfl, by omega, by omega, rfl, by omega, h6.right⟩
  · rintro u q l2 d w3 ⟨bs, rfl, hbl, h3⟩
    refine call_mono (wire_Bytes_ok h3.p1 (by omega)) ?_
    rintro _ w4 ⟨q1, d1, rfl, h4⟩
    refine asS_ok (call_reads (tenonref01_SameBytes_ok h4.left.rd h4.right.right.left.rd (by omega)) fun w5 hs5 => ?_)
    have h5 := h4.same hs5
    refine asB_ok (br_false (by simp) ?_)
    refine ⟨fun i w m => 0 ≤ i ∧ i ≤ bs.length ∧ m = bs.length - i.toNat ∧ ∃ ys : List Int, Sat W (own T_uint8 1 q1 bs.length d1 (by8 ys) * (Wr g bs * (own T_uint8 1 q bs.length d (by8 bs) * old W))) w, ⟨_, by omega, by omega, rfl, bs, h5⟩, ?_⟩
    rintro u i w6 m ⟨h0, h1, rfl, ys, h6⟩
    have hyl := own_len8 h6.left
    refine br_dec (fun hlt => ?_) (fun hge => ?_)
    · refine idx8 h6.left.rd h0 hlt (Same.refl _) fun a x hxa hca => ldI_ok hca (arith_u8 ?_)
      obtain ⟨g1, rfl, hc1⟩ := own_more h6 (by omega)
      refine ⟨⟨h0, hlt⟩, ?_⟩
      rw [add_mk, Nat.zero_add, Nat.mul_one]
      refine st_own h6 (by rw [by8_length]; omega) fun w7 h7 => arith_i64 (by omega) (by omega) ⟨_, by omega, by omega, by omega, rfl, ys.set i.toNat ((x + 1) % 256), ?_⟩
      rw [by8, List.map_set]
      exact h7
    · refine call_mono (wire_Bytes_ok h6.right (by omega)) ?_
      rintro _ w7 ⟨q2, d2, rfl, h7⟩
      refine asS_ok (call_reads (tenonref01_SameBytes_ok h7.left.rd h7.right.right.left.rd (by omega)) fun w8 hs8 => ?_)
      have h8 := h7.same hs8
      refine asB_ok (br_true (by simp) (call_mono (tenonlaw05_awake_ok h8) ?_))
      rintro _ w9 ⟨rfl, h9⟩
      exact asB_ok ⟨rfl, h9.right.right.right.below'⟩

section
open Go.ChangeShapes Go.WideShapes Go.Deep
variable {H : Type} {enc : TypeId × Value → H} {W : World} {base : Nat}
/-- The items that came in. -/
theorem open_Items {v : Value} {d : DataW H} {ps : List MemPlace} (hv : Value.okWide Try.prog W .any base T_sl_tenonlaw05_Item v) (h : DataW.Trod enc Try.prog W 0 (fun _ => true) true T_sl_tenonlaw05_Item v d ps) :
    ∃ p l c xs, v = .slice p l c ∧ l ≤ 9223372036854775807 ∧ Items W p l xs := by
  obtain ⟨p0, l0, c0, rfl⟩ := okWide_slice Try.underlying22 hv
  obtain ⟨fuel, h⟩ := h
  have hf : Try.prog.info? T_tenonlaw05_Item = some (Try.prog.types[T_tenonlaw05_Item]'(of_decide_eq_true (by kernel_rfl))) := by kernel_rfl
  obtain ⟨p, l, c, zs, e, hzl, hlc, hc, hp, hz⟩ := open_elems (sz := 4) (R := fun a (x : ItemD) => ItemAt W a x) Try.underlying22 hf (by kernel_rfl) h (fun a cs n y hcl hat htr => by
    match cs, hcl with
    | [c0, c1, c2, c3], _ =>
      have hu := Try.underlying30
      obtain ⟨_, _, f0⟩ := field_cell hu htr 0 rfl (by kernel_rfl) (v := c0) rfl
      obtain ⟨_, _, f1⟩ := field_cell hu htr 1 rfl (by kernel_rfl) (v := c1) rfl
      obtain ⟨_, _, f2⟩ := field_cell hu htr 2 rfl (by kernel_rfl) (v := c2) rfl
      obtain ⟨_, _, f3⟩ := field_cell hu htr 3 rfl (by kernel_rfl) (v := c3) rfl
      obtain ⟨b, hb, _⟩ := DataW.trod_bool Try.underlying4 f0
      obtain ⟨m1, h1, _, w1⟩ := DataW.trod_int Try.underlying28 f1
      obtain ⟨m2, h2, _, w2⟩ := DataW.trod_int Try.underlying3 f2
      have hf8 : Try.prog.info? T_uint8 = some (Try.prog.types[T_uint8]'(of_decide_eq_true (by kernel_rfl))) := by kernel_rfl
      obtain ⟨p3, l3, k3, zs, h3, hl3, hc3, hrd, hrg⟩ := open_nums Try.underlying27 hf8 (by kernel_rfl) Try.underlying5 f3
      simp only [List.cons.injEq, and_true] at hb h1 h2
      subst hb h1 h2 h3
      have r1 := wf_range w1
      have r2 := wf_range w2
      simp [IntKind.min, IntKind.max, IntKind.signed, IntKind.bits] at r1 r2
      exact ⟨⟨b, m1, m2, p3, l3, k3, zs⟩, by simpa [add_zero] using hat 0 (by omega), by simpa using hat 1 (by omega), by simpa using hat 2 (by omega), by simpa using hat 3 (by omega), hrd, r1.1, r1.2,
        fun b hb => by have := hrg b hb; simpa [IntKind.min, IntKind.max, IntKind.signed, IntKind.bits] using this, r2.1, r2.2⟩)
  cases e
  exact ⟨p0, l0, c0, zs, rfl, by simp only [maxLen] at hc; omega, ⟨hzl, hp, fun a e i x hx => hz a e i x hx⟩⟩
end
theorem WireWrites_row {W : World} {v : Value} (h : ∃ p l c xs, v = .slice p l c ∧ l ≤ 9223372036854775807 ∧ Items W p l xs) :
    call Try.prog fn_tenonlaw05_WireWrites #[v] W fun v w' => v = .bool true ∧ Below W.heap.size W w' := by
  obtain ⟨p, l, c, xs, rfl, hl, hx⟩ := h
  exact WireWrites_walk hx hl
end Go.Proofs.Ytagcmablmogofaa
