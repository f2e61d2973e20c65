/- WireBack: the walk. No conditions. -/
import Derived.Test.YtagcmablmogofaaW7
set_option linter.unusedVariables false
set_option linter.unusedSimpArgs false
namespace Go.Proofs.Ytagcmablmogofaa
open Go.Sp Go.RowKit

/-! ### what was laid is read back -/
theorem readR_form {pre rest : List Int} {n size : Int} (hf : fitsB size = true) (h0 : 0 ≤ n) (h1 : n < 256 ^ size.toNat) :
    readR (pre ++ (form pre.length n size ++ rest)) pre.length size = (n, pre.length + (form pre.length n size).length, 0) := by
  have hs := fitsB_pos hf
  have hg := gapI_le (a := pre.length) (s := size) hs.1
  obtain ⟨m, hm⟩ : ∃ m : Nat, gapI pre.length size = m := ⟨(gapI pre.length size).toNat, by omega⟩
  have hfl := form_length pre.length n size hs.1
  have hd : (pre ++ (form pre.length n size ++ rest)).drop pre.length = List.replicate m 0 ++ (lay n size.toNat ++ rest) := by
    rw [List.drop_left, form, hm, List.append_assoc]; simp
  unfold readR
  rw [hf, hm, Int.toNat_natCast]
  rw [if_neg (by simp)]
  dsimp only
  rw [if_neg (by simp only [List.length_append, hfl, hm]; omega), hd]
  rw [List.take_left' (by simp), if_neg (by simp)]
  have hd2 : (pre ++ (form pre.length n size ++ rest)).drop (pre.length + m) = lay n size.toNat ++ rest := by
    rw [← List.drop_drop, hd, List.drop_left' (by simp)]
  rw [hd2, List.take_left' (lay_length _ _), le_lay n _ h0 h1, hfl, hm, Int.toNat_natCast]
  congr 2
  omega
theorem textR_form {pre rest xs : List Int} (hl : xs.length ≤ 65535) :
    textR (pre ++ (form pre.length xs.length 4 ++ xs ++ rest)) pre.length 65535 = (xs, pre.length + (form pre.length xs.length 4 ++ xs).length, 0) := by
  have h1 := readR_form (pre := pre) (rest := xs ++ rest) (n := xs.length) (size := 4) rfl (by omega) (by show (xs.length : Int) < 256 ^ 4; omega)
  rw [← List.append_assoc (form _ _ _)] at h1
  unfold textR
  rw [h1]
  dsimp only
  rw [if_neg (by simp), if_neg (by omega), if_neg (by simp only [List.length_append]; omega)]
  rw [Int.toNat_natCast, ← List.drop_drop, List.drop_left, List.append_assoc, List.drop_left, List.take_left]
  simp only [List.length_append]
  congr 2
  omega

/-- An item that is laid. -/
def Good (x : ItemD) : Prop := if x.isText = true then x.l ≤ 65535 else fitsB x.size = true ∧ x.n < 256 ^ x.size.toNat
def piece (pre : List Int) (x : ItemD) : List Int := if x.isText = true then form pre.length x.l 4 ++ x.bs else form pre.length x.n x.size
def tl (pre : List Int) : List ItemD → List Int
  | [] => []
  | y :: ys => piece pre y ++ tl (pre ++ piece pre y) ys
theorem tl_append (ys zs : List ItemD) : ∀ pre, tl pre (ys ++ zs) = tl pre ys ++ tl (pre ++ tl pre ys) zs := by
  induction ys with
  | nil => intro pre; simp [tl]
  | cons y ys ih => intro pre; simp only [List.cons_append, tl, ih, List.append_assoc]
/-- What is known of an item, whatever the memory is. -/
structure ItemOk (W : World) (x : ItemD) : Prop where
  rd : Rd W 1 x.p x.l (by8 x.bs)
  n0 : 0 ≤ x.n
  n1 : x.n ≤ 18446744073709551615
  by0 : ∀ b ∈ x.bs, 0 ≤ b ∧ b ≤ 255
  s0 : -9223372036854775808 ≤ x.size
  s1 : x.size ≤ 9223372036854775807
theorem ItemAt.ok {w : World} {a : Addr} {x : ItemD} (h : ItemAt w a x) : ItemOk w x := ⟨h.rd, h.n0, h.n1, h.by0, h.s0, h.s1⟩
def itemCells (x : ItemD) : List Value := [.bool x.isText, .int .u64 x.n, .int .i64 x.size, .slice x.p x.l x.c]
theorem form_range (a : Nat) (n size : Int) : ∀ b ∈ form a n size, 0 ≤ b ∧ b ≤ 255 := by
  intro b hb
  simp only [form, List.mem_append, List.mem_replicate] at hb
  rcases hb with ⟨_, rfl⟩ | hb
  · omega
  · exact lay_range _ _ b hb
theorem piece_range {W : World} {pre : List Int} {x : ItemD} (h : ItemOk W x) : ∀ b ∈ piece pre x, 0 ≤ b ∧ b ≤ 255 := by
  intro b hb
  unfold piece at hb
  split at hb
  · rcases List.mem_append.1 hb with hb | hb
    · exact form_range _ _ _ b hb
    · exact h.by0 b hb
  · exact form_range _ _ _ b hb
theorem piece_length {W : World} {pre : List Int} {x : ItemD} (h : ItemOk W x) (hg : Good x) : (piece pre x).length ≤ 65560 := by
  have hl := h.rd.len8
  unfold Good at hg
  unfold piece
  split
  · rename_i ht
    rw [if_pos ht] at hg
    have h1 := form_length pre.length x.l 4 (by omega)
    have h2 := gapI_le (a := pre.length) (s := 4) (by omega)
    rw [List.length_append]
    omega
  · rename_i ht
    rw [if_neg ht] at hg
    have hs := fitsB_pos hg.1
    have h1 := form_length pre.length x.n x.size hs.1
    have h2 := gapI_le (a := pre.length) (s := x.size) hs.1
    omega
theorem flat_get {α : Type} {f : α → List Value} {sz : Nat} (hf : ∀ y, (f y).length = sz) : ∀ {ys : List α} {i : Nat} {y : α} {j : Nat}, ys[i]? = some y → j < sz → (ys.flatMap f)[i * sz + j]? = (f y)[j]?
  | [], i, y, j, h, _ => by simp at h
  | z :: ys, 0, y, j, h, hj => by
    simp only [List.getElem?_cons_zero, Option.some.injEq] at h
    subst h
    rw [List.flatMap_cons, Nat.zero_mul, Nat.zero_add, List.getElem?_append_left (by rw [hf]; exact hj)]
  | z :: ys, i + 1, y, j, h, hj => by
    rw [List.flatMap_cons, List.getElem?_append_right (by rw [hf, Nat.add_mul]; omega), hf, show (i + 1) * sz + j - sz = i * sz + j by rw [Nat.add_mul]; omega]
    exact flat_get hf (by simpa using h) hj
theorem flat_len {α : Type} {f : α → List Value} {sz : Nat} (hf : ∀ y, (f y).length = sz) (ys : List α) : (ys.flatMap f).length = ys.length * sz := by
  induction ys with
  | nil => simp
  | cons y ys ih => rw [List.flatMap_cons, List.length_append, hf, ih, List.length_cons, Nat.add_mul]; omega
theorem itemCells_len : ∀ x, (itemCells x).length = 4 := fun _ => rfl
theorem itemsTy : SliceTy Try.prog T_sl_tenonlaw05_Item T_tenonlaw05_Item (.agg #[.bool false, .int .u64 0, .int .i64 0, .slice none 0 0]) 4 48 := ⟨by kernel_rfl, by kernel_rfl, rfl, by decide⟩

/-- The items that were laid, as a slice of the statement's own. -/
def Laid (p : Option Addr) (l c : Nat) (ys : List ItemD) : HP := own T_tenonlaw05_Item 4 p l c (ys.flatMap itemCells)
theorem Laid.len {w₀ w : World} {p : Option Addr} {l c : Nat} {ys : List ItemD} (h : Sat w₀ (Laid p l c ys) w) : ys.length = l := by
  have h1 : Sat w₀ (own T_tenonlaw05_Item 4 p l c (ys.flatMap itemCells)) w := h
  have := h1.own_len
  rw [flat_len itemCells_len] at this
  omega
theorem Laid.idx {w₀ w W : World} {p : Option Addr} {l c : Nat} {ys : List ItemD} {i : Nat} {y : ItemD} {K : Addr → Prop} (h : Sat w₀ (Laid p l c ys) w) (ho : Sat w₀ (old W) w) (hok : ItemOk W y) (hy : ys[i]? = some y)
    (hk : ∀ a, ItemAt w a y → K a) : Sp.idx p l (i : Int) 4 K := by
  have hl := Laid.len h
  have hlt := (List.getElem?_eq_some_iff.1 hy).1
  have hr : Rd w 4 p l (ys.flatMap itemCells) := Sat.rd h
  refine idx_ok hr (by omega) (by omega) fun a e => hk _ ?_
  rw [Int.toNat_natCast]
  have g : ∀ j v, j < 4 → (itemCells y)[j]? = some v → w.cell? ((a.add (i * 4)).add j) = some v := by
    intro j v hj hv
    rw [add_add]
    exact hr.get e ((flat_get itemCells_len hy hj).trans hv)
  have g0 := g 0 _ (by omega) rfl
  rw [add_zero] at g0
  exact ⟨g0, g 1 _ (by omega) rfl, g 2 _ (by omega) rfl, g 3 _ (by omega) rfl, hok.rd.old ho, hok.n0, hok.n1, hok.by0, hok.s0, hok.s1⟩
theorem ItemAt.ld {w : World} {a : Addr} {x : ItemD} {K : Array Value → Prop} (ha : ItemAt w a x) (hk : K (itemCells x).toArray) : ldA a 4 w K := by
  refine ldA_ok (vs := (itemCells x).toArray) rfl ?_ hk
  intro j hj
  match j, hj with
  | 0, _ => simpa [add_zero, itemCells] using ha.c0
  | 1, _ => simpa [itemCells] using ha.c1
  | 2, _ => simpa [itemCells] using ha.c2
  | 3, _ => simpa [itemCells] using ha.c3
/-- One more is laid beside. -/
theorem Laid.more {w₀ w : World} {F : HP} {p : Option Addr} {l c : Nat} {ys : List ItemD} {x : ItemD} {K : Option Addr → Nat → Nat → World → Prop} {ty : TypeId} (h : Sat w₀ (Laid p l c ys * F) w) (hl : l ≤ 1000)
    (hk : ∀ p' c' w', Sat w₀ (Laid p' (l + 1) c' (ys ++ [x]) * F) w' → K p' (l + 1) c' w') :
    (itemCells x).toArray.size = 4 ∧ new (itemCells x).toArray T_tenonlaw05_Item w fun k w6 => runsS Try.prog (Builtin.append_ #[T_sl_tenonlaw05_Item, T_sl_tenonlaw05_Item] ty #[.slice p l c, .slice (some ⟨k, 0, none⟩) 1 1]) w6 K := by
  refine ⟨rfl, new_ok h fun k w6 h6 => ?_⟩
  refine app_ok (m := 1) itemsTy h6.right (h6.left.rd_ob (l := 1) (sz := 4) rfl) (by simp [itemCells, Value.oneCell']) (by simp only [maxLen]; omega) (by omega) fun p' c' w' h7 => hk p' c' w' ?_
  rw [Laid, List.flatMap_append]
  simpa using h7

theorem WireBack_walk {W : World} {p : Option Addr} {l c : Nat} {xs : List ItemD} (hx : Items W p l xs) (hl : l ≤ 9223372036854775807) :
    call Try.prog fn_tenonlaw05_WireBack #[.slice p l c] W fun v w' => v = .bool true ∧ Below W.heap.size W w' := by
  apply tenonlaw05_WireBack_call
  unfold tenonlaw05_WireBack
  refine call_mono (great_ok (Sat.start W) (fun _ h => h) hx hl) ?_
  rintro _ w1 ⟨b, rfl, hsm, h1⟩
  refine asB_ok (br_split (fun hb => ?_) (fun hb => ?_))
  · refine call_mono (tenonlaw05_awake_ok h1) ?_
    rintro _ w2 ⟨rfl, h2⟩
    exact asB_ok ⟨rfl, h2.below'⟩
  refine call_mono (wire_NewWriter_ok h1) ?_
  rintro _ w2 ⟨g, rfl, h2⟩
  refine asP_ok ⟨fun q l d w => ∃ ys : List ItemD, ys.length ≤ 100 ∧ (tl [] ys).length ≤ 65560 * ys.length ∧ (∀ y ∈ ys, ItemOk W y ∧ Good y) ∧ Sat W (Laid q l d ys * (Wr g (tl [] ys) * old W)) w, ?_, ?_⟩
  · refine ⟨fun q l d i w m => ∃ ys : List ItemD, 0 ≤ i ∧ i ≤ 100 ∧ ys.length ≤ i ∧ m = 100 - i.toNat ∧ (tl [] ys).length ≤ 65560 * ys.length ∧ (∀ y ∈ ys, ItemOk W y ∧ Good y) ∧ Sat W (Laid q l d ys * (Wr g (tl [] ys) * old W)) w,
      ⟨100, [], by omega, by omega, by simp, rfl, by simp [tl], by simp, h2.own_nil _ _⟩, ?_⟩
    rintro u q lq d i w3 m ⟨ys, h0, h1, hyl, rfl, hlen, hok, h3⟩
    have hyq := Laid.len h3.left
    refine br_dec (fun hlt => br_dec (fun hlt2 => ?_) (fun hge => ⟨ys, by omega, hlen, hok, h3⟩)) (fun hge => ⟨ys, by omega, hlen, hok, h3⟩)
    have step : ∀ {x : ItemD} {w}, xs[i.toNat]? = some x → ItemOk W x → Good x → Sat W (Wr g (tl [] ys ++ piece (tl [] ys) x) * (Laid q lq d ys * old W)) w →
        Sp.idx p l i 4 fun a20 => ldA a20 4 w fun g21 => g21.size = 4 ∧ new g21 30 w fun k22 w6 => runsS Try.prog (Builtin.append_ #[22, 22] 22 #[.slice q lq d, .slice (some (⟨k22, 0, none⟩ : Addr)) 1 1]) w6 fun p23 l23 c23 w7 =>
          arith .i64 (i + 1) fun n24 => ∃ m25, m25 < 100 - i.toNat ∧ ∃ ys : List ItemD, 0 ≤ n24 ∧ n24 ≤ 100 ∧ (ys.length : Int) ≤ n24 ∧ m25 = 100 - n24.toNat ∧ (tl [] ys).length ≤ 65560 * ys.length ∧ (∀ y ∈ ys, ItemOk W y ∧ Good y) ∧ Sat W (Laid p23 l23 c23 ys * (Wr g (tl [] ys) * old W)) w7 := by
      intro x w hxa hxo hxg h
      refine hx.idx' h.right.right h0 hlt hxa fun a ha => ha.ld <| Laid.more (x := x) h.p1 (by omega) fun p' c' w' h' => arith_i64 (by omega) (by omega) ⟨_, by omega, ys ++ [x], by omega, by omega, by simp; omega, rfl, ?_, ?_, ?_⟩
      · have := piece_length (pre := tl [] ys) hxo hxg
        simp only [tl_append, tl, List.nil_append, List.append_nil, List.length_append, List.length_cons, List.length_nil]
        omega
      · intro y hy
        rcases List.mem_append.1 hy with hy | hy
        · exact hok y hy
        · rw [List.mem_singleton] at hy
          subst hy
          exact ⟨hxo, hxg⟩
      · simpa [tl_append, tl] using h'
    refine hx.idx h3.right.right h0 hlt fun a x hxa ha hA => ldB_ok (by rw [add_zero]; exact ha.c0) <| br_split (fun ht => ?_) (fun ht => ?_)
    · have hxl := ha.rd.len8
      have hx7 := hsm hb i.toNat x (by omega) hxa
      refine hx.idx' h3.right.right h0 hlt hxa fun a ha => ldS_ok ha.c3 ?_
      by_cases h65 : x.l ≤ 65535
      · refine call_mono (wire_Text_ok h3.p1 (Gives.right (Gives.old hA.rd)) h65 (by omega)) ?_
        rintro _ w4 ⟨rfl, h4⟩
        refine asI_ok <| br_true rfl <| step hxa hA.ok (by rw [Good, if_pos ht]; exact h65) ?_
        rw [piece, if_pos ht, ← List.append_assoc]
        exact h4
      · refine call_mono (wire_Text_no h3 (by omega)) ?_
        rintro _ w4 ⟨rfl, h4⟩
        exact asI_ok <| br_false rfl <| arith_i64 (by omega) (by omega) ⟨_, by omega, ys, by omega, by omega, by omega, rfl, hlen, hok, h4⟩
    · have h3 := h3.drew
      refine hx.idx' h3.right.right h0 hlt hxa fun a ha => ldI_ok ha.c1 <| hx.idx' h3.right.right h0 hlt hxa fun a ha => ldI_ok ha.c2 ?_
      cases hfr : (fitsB x.size && roomB x.n x.size) with
      | true =>
        simp only [Bool.and_eq_true] at hfr
        have hroom := roomB_true ha.n0 hfr.2
        refine call_mono (wire_Num_ok h3.p1 hfr.1 ha.n0 hroom (by omega)) ?_
        rintro _ w4 ⟨rfl, h4⟩
        refine asI_ok <| br_true rfl <| step hxa hA.ok (by rw [Good, if_neg (by simp [ht])]; exact ⟨hfr.1, hroom⟩) ?_
        rw [piece, if_neg (by simp [ht])]
        exact h4
      | false =>
        refine call_mono (wire_Num_no h3 hfr ha.n0 ha.n1) ?_
        rintro _ w4 ⟨rfl, h4⟩
        exact asI_ok <| br_false rfl <| arith_i64 (by omega) (by omega) ⟨_, by omega, ys, by omega, by omega, by omega, rfl, hlen, hok, h4⟩
  · rintro u q l2 d w3 ⟨ys, hyl, hlen, hok, h3⟩
    have hyq := Laid.len h3.left
    have hrng : ∀ (zs : List ItemD) pre, (∀ y ∈ zs, ItemOk W y ∧ Good y) → ∀ b ∈ tl pre zs, 0 ≤ b ∧ b ≤ 255 := by
      intro zs
      induction zs with
      | nil => intro pre _ b hb; cases hb
      | cons z zs ih =>
        intro pre hz b hb
        rcases List.mem_append.1 hb with hb | hb
        · exact piece_range (hz z (.head _)).1 b hb
        · exact ih _ (fun y hy => hz y (.tail _ hy)) b hb
    have hr := hrng ys [] hok
    refine call_mono (wire_Bytes_ok h3.p1 (by omega)) ?_
    rintro _ w4 ⟨q1, d1, rfl, h4⟩
    refine asS_ok <| call_mono (wire_NewReader_ok h4 (Gives.left Gives.own) (by omega)) ?_
    rintro _ w5 ⟨g2, rfl, h5⟩
    have h5 : Sat W (Rdr g2 (tl [] ys) 0 * (Laid q l2 d ys * old W)) w5 := by
      have e := h5.p1.right.p1.right
      exact e
    refine asP_ok ⟨fun i w m => ∃ k : Nat, i = k ∧ k ≤ ys.length ∧ m = ys.length - k ∧ Sat W (Rdr g2 (tl [] ys) (tl [] (ys.take k)).length * (Laid q l2 d ys * old W)) w, ⟨_, 0, rfl, by omega, rfl, by simpa [tl] using h5⟩, ?_⟩
    rintro u _ w6 m ⟨k, rfl, hk, rfl, h6⟩
    have hb1 : (tl [] ys).length ≤ 140737488355328 := by omega
    have hsplit : ∀ k, tl [] ys = tl [] (ys.take k) ++ tl (tl [] (ys.take k)) (ys.drop k) := by
      intro k
      have := tl_append (ys.take k) (ys.drop k) []
      rw [List.take_append_drop] at this
      simpa using this
    have hat : (tl [] (ys.take k)).length ≤ (tl [] ys).length := by
      have := congrArg List.length (hsplit k)
      rw [List.length_append] at this
      omega
    refine br_dec (fun hlt => ?_) (fun hge => ?_)
    · obtain ⟨y, hy⟩ : ∃ y, ys[k]? = some y := ⟨ys[k]'(by omega), by simp⟩
      have hyo := hok y (List.mem_iff_getElem?.2 ⟨_, hy⟩)
      have hdrop : ys.drop k = y :: ys.drop (k + 1) := by
        obtain ⟨hkl, he⟩ := List.getElem?_eq_some_iff.1 hy
        rw [List.drop_eq_getElem_cons hkl, he]
      have htake : tl [] (ys.take (k + 1)) = tl [] (ys.take k) ++ piece (tl [] (ys.take k)) y := by
        rw [List.take_add_one, hy]
        simp [tl_append, tl]
      have hbs : tl [] ys = tl [] (ys.take k) ++ (piece (tl [] (ys.take k)) y ++ tl (tl [] (ys.take k) ++ piece (tl [] (ys.take k)) y) (ys.drop (k + 1))) := by
        have := hsplit k
        rw [hdrop] at this
        exact this
      have hgood := hyo.2
      refine Laid.idx h6.right.left h6.right.right hyo.1 hy fun a ha => ldB_ok (by rw [add_zero]; exact ha.c0) <| br_split (fun ht => ?_) (fun ht => ?_)
      · rw [Good, if_pos ht] at hgood
        have hyl8 := hyo.1.rd.len8
        refine call_mono (wire_Reader_Text_ok h6 hat hb1 hr (by omega)) ?_
        have hT : textR (tl [] ys) (tl [] (ys.take k)).length 65535 = (y.bs, (tl [] (ys.take (k + 1))).length, 0) := by
          rw [htake]
          conv => lhs; rw [hbs]
          rw [piece, if_pos ht, ← hyl8]
          rw [textR_form (by omega)]
          simp only [List.length_append]
        rw [hT]
        dsimp only
        rintro _ w7 ⟨q3, d3, rfl, h7⟩
        refine ⟨_, _, _, _, rfl, br_false rfl <| Laid.idx h7.right.right.left h7.right.right.right hyo.1 hy fun a ha => ldS_ok ha.c3 <| call_reads (tenonref01_SameBytes_ok h7.left.rd ha.rd (by omega)) fun w8 hs => asB_ok <| br_false (by simp) <| arith_i64 (by omega) (by omega) ⟨_, by omega, k + 1, by omega, by omega, rfl, ?_⟩⟩
        exact (h7.same hs).right
      · rw [Good, if_neg (by simp [ht])] at hgood
        refine Laid.idx h6.right.left h6.right.right hyo.1 hy fun a ha => ldI_ok ha.c2 <| call_mono (wire_Reader_Num_ok h6 hat hb1 hr) ?_
        have hT : readR (tl [] ys) (tl [] (ys.take k)).length y.size = (y.n, (tl [] (ys.take (k + 1))).length, 0) := by
          rw [htake]
          conv => lhs; rw [hbs]
          rw [piece, if_neg (by simp [ht]), readR_form hgood.1 hyo.1.n0 hgood.2, List.length_append]
        rw [hT]
        dsimp only
        rintro _ w7 ⟨rfl, _, h7⟩
        exact ⟨_, _, rfl, br_false rfl <| Laid.idx h7.right.left h7.right.right hyo.1 hy fun a ha => ldI_ok ha.c1 <| br_false (by simp) <| arith_i64 (by omega) (by omega) ⟨_, by omega, k + 1, by omega, by omega, rfl, h7⟩⟩
    · have hk2 : k = ys.length := by omega
      subst hk2
      rw [List.take_length] at h6
      refine call_mono (wire_End_ok h6 (Nat.le_refl _) hb1) ?_
      rintro _ w7 ⟨rfl, h7⟩
      rw [if_neg (by omega)]
      refine asI_ok <| br_true rfl <| call_mono (wire_Left_ok h7 (Nat.le_refl _) hb1) ?_
      rintro _ w8 ⟨rfl, h8⟩
      refine asI_ok <| br_true (by simp) <| call_mono (tenonlaw05_awake_ok h8) ?_
      rintro _ w9 ⟨rfl, h9⟩
      exact asB_ok ⟨rfl, h9.right.right.below'⟩
theorem WireBack_row {W : World} {v : Value} (h : ∃ p l c xs, v = .slice p l c ∧ l ≤ 9223372036854775807 ∧ Items W p l xs) :
    call Try.prog fn_tenonlaw05_WireBack #[v] W fun v w' => v = .bool true ∧ Below W.heap.size W w' := by
  obtain ⟨p, l, c, xs, rfl, hl, hx⟩ := h
  exact WireBack_walk hx hl
end Go.Proofs.Ytagcmablmogofaa
