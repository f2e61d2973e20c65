/- Values: the form, and both ways to lay it. No conditions. -/
import Derived.Test.YtmecgkeplkchcaaV2
import Derived.Test.YtmecgkeplkchcaaW6
import Derived.Laws.IdiomStrings
set_option linter.unusedVariables false
set_option linter.unusedSimpArgs false
set_option linter.unusedSectionVars false
set_option maxRecDepth 100000
namespace Go.Proofs.Ytmecgkeplkchcaa
open Go.Sp Go.RowKit

/-! ### a string's bytes -/
def bytesS (s : ByteArray) : List Int := s.data.toList.map fun b => (b.toNat : Int)
theorem bytesS_len (s : ByteArray) : (bytesS s).length = s.size := by
  rw [bytesS, List.length_map, Array.length_toList]
  rfl
theorem bytesS_range (s : ByteArray) : ∀ b ∈ bytesS s, 0 ≤ b ∧ b ≤ 255 := by
  intro b hb
  obtain ⟨c, _, rfl⟩ := List.mem_map.1 hb
  have := c.toNat_lt
  omega
theorem conv_str {w₀ w : World} {F : HP} {s : ByteArray} {K : Option Addr → Nat → Nat → World → Prop} (h : Sat w₀ F w)
    (hk : ∀ (p : Option Addr) (c : Nat) (w' : World) (G : HP), Sat w₀ (G * F) w' → Gives G 1 p s.size (by8 (bytesS s)) → K p s.size c w') : runsS Try.prog (convert T_string T_sl_uint8 (.string s)) w K := by
  refine ⟨_, _, _, _, run_bytes_of_string w T_string T_sl_uint8 T_uint8 s (by kernel_rfl) (by kernel_rfl) (by kernel_rfl), ?_⟩
  have h1 := (h.drew).alloc (.cells (bytesRow s (grownCap w s.size 0 T_uint8)) T_uint8 ((bytesRow s (grownCap w s.size 0 T_uint8)).size, (bytesRow s (grownCap w s.size 0 T_uint8)).size + 1))
  refine hk _ _ _ _ h1 fun w1 w2 h2 => ⟨?_, fun _ => ⟨_, rfl⟩, fun a e j u hj => ?_⟩
  · rw [by8_length, bytesS_len, Nat.mul_one]
  · cases e
    have hlt := (List.getElem?_eq_some_iff.1 hj).1
    rw [by8_length, bytesS_len] at hlt
    have hb := h2.with_emp.e1.ob
    rw [show w.heap.size = w.drew.heap.size from rfl, add_mk, Nat.zero_add]
    simp only [World.cell?, hb]
    rw [← hj]
    have hlt' : j < (s.data.map fun b => Value.int .u8 b.toNat).size := by rw [Array.size_map]; exact hlt
    show (bytesRow s _)[j]? = _
    unfold bytesRow
    rw [Array.getElem?_append_left hlt', by8, bytesS, List.map_map, List.getElem?_map, Array.getElem?_map, Array.getElem?_toList]
    rfl

/-! ### the form -/
def un (n : Int) : Int := n % 18446744073709551616
theorem arith_un {e : Int} {K : Int → Prop} (hk : K (un e)) : arith .u64 e K := by
  unfold arith
  have : IntKind.wrap .u64 e = un e := by
    simp only [IntKind.wrap, IntKind.signed, IntKind.bits, un]
    simp
  rw [this]
  exact hk
def form1 (bs : List Int) (x : VT) : List Int :=
  if x.kd = 1 then (bs ++ form bs.length x.kd 1) ++ form (bs ++ form bs.length x.kd 1).length x.n 1
  else if x.kd = 2 then (bs ++ form bs.length x.kd 1) ++ form (bs ++ form bs.length x.kd 1).length (x.n % 4294967296) 4
  else if x.kd = 3 ∨ x.kd = 5 then (bs ++ form bs.length x.kd 1) ++ form (bs ++ form bs.length x.kd 1).length (un x.n) 8
  else if x.kd = 4 then ((bs ++ form bs.length x.kd 1) ++ form (bs ++ form bs.length x.kd 1).length x.s.size 4) ++ bytesS x.s
  else if x.kd = 6 then (bs ++ form bs.length x.kd 1) ++ form (bs ++ form bs.length x.kd 1).length x.l.length 4
  else bs ++ form bs.length x.kd 1
def nd (x : VT) : List VT := (pre 0 x).map (·.2)
def encV (x : VT) : List Int := (nd x).foldl form1 []
def wt1 (x : VT) : Nat := 24 + x.s.size
def tw (x : VT) : Nat := ((nd x).map wt1).sum
theorem form_le (a : Nat) (n s : Int) (h : 1 ≤ s) (h8 : s ≤ 8) : (form a n s).length ≤ 7 + s.toNat := by
  rw [form_length _ _ _ h]
  have := gapI_le (a := (a : Int)) h
  omega
theorem form1_len (bs : List Int) (x : VT) : (form1 bs x).length ≤ bs.length + wt1 x := by
  have hb : (bs ++ form bs.length x.kd 1).length ≤ bs.length + 8 := by
    have := form_le bs.length x.kd 1 (by omega) (by omega)
    rw [List.length_append]
    omega
  unfold form1 wt1
  generalize bs ++ form bs.length x.kd 1 = b at hb ⊢
  split
  · have := form_le b.length x.n 1 (by omega) (by omega)
    rw [List.length_append]; omega
  · split
    · have := form_le b.length (x.n % 4294967296) 4 (by omega) (by omega)
      rw [List.length_append]; omega
    · split
      · have := form_le b.length (un x.n) 8 (by omega) (by omega)
        rw [List.length_append]; omega
      · split
        · have := form_le b.length x.s.size 4 (by omega) (by omega)
          rw [List.length_append, List.length_append, bytesS_len]; omega
        · split
          · have := form_le b.length x.l.length 4 (by omega) (by omega)
            rw [List.length_append]; omega
          · omega
theorem foldl_len (l : List VT) (bs : List Int) : (l.foldl form1 bs).length ≤ bs.length + (l.map wt1).sum := by
  induction l generalizing bs with
  | nil => simp
  | cons x l ih =>
    rw [List.foldl_cons, List.map_cons, List.sum_cons]
    have := ih (form1 bs x)
    have := form1_len bs x
    omega
theorem sum_take (l : List VT) (j : Nat) : ((l.take j).map wt1).sum ≤ (l.map wt1).sum := by
  conv => rhs; rw [← List.take_append_drop j l, List.map_append, List.sum_append]
  omega
/-- What a node that may be is. -/
theorem chk1_zero {d : Int} {x : VT} (h : chk1 d x = 0) : d < 8 ∧ formB x = true ∧ x.s.size ≤ 256 ∧ x.l.length ≤ 64 := by
  unfold chk1 at h
  split at h
  · cases h
  · split at h
    · cases h
    · rename_i hf
      split at h
      · cases h
      · split at h
        · cases h
        · exact ⟨by omega, by simpa using hf, by omega, by omega⟩
theorem formB_kd {x : VT} (h : formB x = true) : 0 ≤ x.kd ∧ x.kd ≤ 6 := by
  unfold formB at h
  split at h
  · omega
  · split at h
    · omega
    · split at h
      · omega
      · split at h
        · omega
        · split at h
          · omega
          · split at h
            · omega
            · cases h
theorem formB_1 {x : VT} (h : formB x = true) (k : x.kd = 1) : x.n = 0 ∨ x.n = 1 := by
  rw [formB, if_neg (by omega), if_pos k] at h
  simp at h
  exact h.1.1
theorem nz_all {l : List (Int × VT)} (h : nz (l.map fun q => chk1 q.1 q.2) = 0) : ∀ q ∈ l, chk1 q.1 q.2 = 0 := by
  induction l with
  | nil => simp
  | cons a l ih =>
    rw [List.map_cons, nz] at h
    split at h
    · rename_i hne; exact absurd h hne
    · rename_i he
      intro q hq
      rcases List.mem_cons.1 hq with rfl | hq
      · simpa using he
      · exact ih h q hq
section
variable {w₀ w : World} {F : HP} {x : VT}
theorem variant_Encode_no (h : Sat w₀ F w) (hV : VGives F x) (hI : VIn x) (hc : chkR 0 x ≠ 0) :
    call Try.prog fn_variant_Encode #[.agg (va x)] w fun v w' => v = .tuple #[.slice none 0 0, .int .i64 (chkR 0 x)] ∧ Sat w₀ F w' := by
  apply variant_Encode_call
  unfold variant_Encode
  refine new_ok h fun k1 w1 h1 => ldV4 h1 <| call_mono (variant_Check_ok h1 (VGives.right hV) hI) ?_
  rintro _ w2 ⟨rfl, h2⟩
  exact asI_ok <| br_true (by simp [hc]) ⟨rfl, h2.right⟩
theorem variant_Encode_ok (h : Sat w₀ F w) (hV : VGives F x) (hI : VIn x) (hc : chkR 0 x = 0) (hw : tw x ≤ 68719476736) :
    call Try.prog fn_variant_Encode #[.agg (va x)] w fun v w' => ∃ q d, v = .tuple #[.slice q (encV x).length d, .int .i64 0] ∧ Sat w₀ (own T_uint8 1 q (encV x).length d (by8 (encV x)) * F) w' := by
  apply variant_Encode_call
  unfold variant_Encode
  refine new_ok h fun k1 w1 h1 => ldV4 h1 <| call_mono (variant_Check_ok h1 (VGives.right hV) hI) ?_
  rintro _ w2 ⟨rfl, h2⟩
  refine asI_ok <| br_false (by simp [hc]) <| call_mono (wire_NewWriter_ok h2) ?_
  rintro _ w3 ⟨g, rfl, h3⟩
  refine asP_ok <| new_ok h3 fun k7 w4 h4 => st_ok (i := 0) h4 (by simp) fun w5 h5 => ?_
  have h5 : Sat w₀ (blk k7 #[.pointer (some ⟨g, 0, none⟩)] 57 * (Wr g [] * (blk k1 (va x) 24 * F))) w5 := h5
  refine ldV4 h5.right.right <| call_mono (variant_Walk_ok h5) ?_
  rintro _ w6 ⟨k, rfl, h6⟩
  have hnode := nz_all (l := pre 0 x) hc
  let A : Nat → HP := fun j => Wr g (((nd x).take j).foldl form1 []) * (blk k7 #[.pointer (some ⟨g, 0, none⟩)] 57 * (blk k (va x) 24 * (blk k1 (va x) 24 * F)))
  refine asF_ok ⟨w₀, fn_variant_Walk_1, _, (pre 0 x).map encD, A, fun _ => prop False,
    rfl, ⟨_, _, Try.func40, rfl⟩, h6.perm (by simp only [A, List.take_zero, List.foldl_nil]; ac_rfl), ?_, Walk_iter (fun w hw => hw.right.right.left) (fun j w hw => hV _ _ hw.right.right.right.right) hI, ?_, ?_, ?_⟩
  · intro z hz
    obtain ⟨y, _, rfl⟩ := List.mem_map.1 hz
    rfl
  · intro j z hz G G' T w7 hT h7
    rw [List.getElem?_map] at hz
    obtain ⟨q, hq, rfl⟩ := Option.map_eq_some_iff.1 hz
    obtain ⟨hd8, hfm, hss, hll⟩ := chk1_zero (hnode q (List.mem_of_getElem? hq))
    obtain ⟨y, hy⟩ : ∃ y, y = q.2 := ⟨_, rfl⟩
    rw [← hy] at hfm hss hll
    have hndj : (nd x)[j]? = some y := by rw [nd, List.getElem?_map, hq, hy]; rfl
    have etk : ((nd x).take (j + 1)).foldl form1 [] = form1 (((nd x).take j).foldl form1 []) y := by
      rw [List.take_add_one, hndj, List.foldl_append]
      rfl
    obtain ⟨bs, hbs⟩ : ∃ bs, bs = ((nd x).take j).foldl form1 [] := ⟨_, rfl⟩
    have hbl : bs.length ≤ 68719476736 := by
      have h1 := foldl_len ((nd x).take j) []
      have h2 := sum_take (nd x) j
      rw [← hbs] at h1
      simp only [List.length_nil, Nat.zero_add] at h1
      unfold tw at hw
      omega
    have hk := formB_kd hfm
    refine ⟨_, _, rfl, new_ok h7 fun k17 w8 h8 => stA_ok h8 rfl rfl (va_one _) fun w9 h9 => hT (blk k17 (va q.2) 24 * A j) _ _ (h9.perm (by
      show blk k17 _ 24 * _ = _
      ac_rfl)) fun w10 h10 => ?_⟩
    have h11 : Sat w₀ (Wr g bs * (blk k7 #[.pointer (some ⟨g, 0, none⟩)] 57 * (blk k17 (va y) 24 * (blk k (va x) 24 * (blk k1 (va x) 24 * (F * G')))))) w10 := h10.perm (by simp only [A]; rw [← hbs, ← hy]; ac_rfl)
    have fin : ∀ {w : World} {bs' : List Int}, Sat w₀ (Wr g bs' * (blk k7 #[.pointer (some ⟨g, 0, none⟩)] 57 * (blk k17 (va y) 24 * (blk k (va x) 24 * (blk k1 (va x) 24 * (F * G')))))) w → form1 bs y = bs' → Sat w₀ (A (j + 1) * G') w := by
      intro w bs' hw he
      refine (hw.perm (B := blk k17 (va y) 24 * (A (j + 1) * G')) ?_).right
      simp only [A]
      rw [etk, ← hbs, he]
      ac_rfl
    have c7 : ∀ {w : World} {X : HP}, Sat w₀ (X * (blk k7 #[.pointer (some ⟨g, 0, none⟩)] 57 * (blk k17 (va y) 24 * (blk k (va x) 24 * (blk k1 (va x) 24 * (F * G')))))) w → w.cell? (⟨k7, 0, none⟩ : Addr) = some (.pointer (some ⟨g, 0, none⟩)) := fun h => h.right.left.cell (i := 0) rfl
    have cy : ∀ {w : World} {X : HP} (i : Nat) {v : Value}, Sat w₀ (X * (blk k7 #[.pointer (some ⟨g, 0, none⟩)] 57 * (blk k17 (va y) 24 * (blk k (va x) 24 * (blk k1 (va x) 24 * (F * G')))))) w → (va y)[i]? = some v → w.cell? ((⟨k17, 0, none⟩ : Addr).add i) = some v := @fun _ _ i _ h e => cell_blk h.right.right e
    refine ldP_ok (c7 h11) <| ldI_ok (cy 0 h11 rfl) <| arith_u64 (by omega) (by omega) <| call_mono (wire_Num_ok (size := 1) h11 rfl hk.1 (by show y.kd < 256; omega) (by omega)) ?_
    rintro _ w11 ⟨rfl, h12⟩
    obtain ⟨b1, hb1⟩ : ∃ b1, b1 = bs ++ form bs.length y.kd 1 := ⟨_, rfl⟩
    rw [← hb1] at h12
    have hb1l : b1.length ≤ 68719476800 := by
      have := form_le bs.length y.kd 1 (by omega) (by omega)
      rw [hb1, List.length_append]
      omega
    refine asI_ok <| ldI_ok (cy 0 h12 rfl) <| br_split (fun k1' => ?_) (fun k1' => br_split (fun k2 => ?_) (fun k2 => ?_))
    · have k1' : y.kd = 1 := by simpa using k1'
      have hn := formB_1 hfm k1'
      refine ldP_ok (c7 h12) <| ldI_ok (cy 1 h12 rfl) <| arith_u64 (by omega) (by omega) <| call_mono (wire_Num_ok (size := 1) h12 rfl (by omega) (by show y.n < 256; omega) (by omega)) ?_
      rintro _ w12 ⟨rfl, h13⟩
      exact asI_ok (fin h13 (by rw [form1, if_pos k1', ← hb1]))
    · have k1' : y.kd ≠ 1 := by simpa using k1'
      have k2 : y.kd = 2 := by simpa using k2
      refine ldP_ok (c7 h12) <| ldI_ok (cy 1 h12 rfl) <| arith_u32_mod <| arith_u64 (by omega) (by omega) <| call_mono (wire_Num_ok (size := 4) h12 rfl (by omega) (by show y.n % 4294967296 < 4294967296; omega) (by omega)) ?_
      rintro _ w12 ⟨rfl, h13⟩
      exact asI_ok (fin h13 (by rw [form1, if_neg k1', if_pos k2, ← hb1]))
    · have k1' : y.kd ≠ 1 := by simpa using k1'
      have k2 : y.kd ≠ 2 := by simpa using k2
      refine ⟨fun b w => (b = true ↔ y.kd = 3 ∨ y.kd = 5) ∧ w = w11, ?_, ?_⟩
      · refine br_split (fun h => ⟨?_, rfl⟩) (fun h => ⟨?_, rfl⟩)
        · simp at h ⊢; omega
        · simp at h ⊢; omega
      rintro u b w14 ⟨hb, rfl⟩
      refine br_split (fun k3 => ?_) (fun k3 => ?_)
      · have k3 := hb.1 k3
        refine ldP_ok (c7 h12) <| ldI_ok (cy 1 h12 rfl) <| arith_un <| call_mono (wire_Num_ok (size := 8) h12 rfl (by unfold un; omega) (by show un y.n < 18446744073709551616; unfold un; omega) (by omega)) ?_
        rintro _ w12 ⟨rfl, h13⟩
        exact asI_ok (fin h13 (by rw [form1, if_neg k1', if_neg k2, if_pos k3, ← hb1]))
      have k3 : ¬ (y.kd = 3 ∨ y.kd = 5) := fun h => by rw [hb.2 h] at k3; cases k3
      refine br_split (fun k4 => ?_) (fun k4 => br_split (fun k6 => ?_) (fun k6 => ?_))
      · have k4 : y.kd = 4 := by simpa using k4
        refine ldP_ok (c7 h12) <| ldT_ok (cy 2 h12 rfl) <| conv_str h12 fun p c w15 Gs h15 hgs => ?_
        have h16 := h15.perm (B := Wr g b1 * (Gs * (blk k7 #[.pointer (some ⟨g, 0, none⟩)] 57 * (blk k17 (va y) 24 * (blk k (va x) 24 * (blk k1 (va x) 24 * (F * G'))))))) (by ac_rfl)
        refine call_mono (wire_Text_ok h16 (Gives.left hgs) (by omega) (by omega)) ?_
        rintro _ w16 ⟨rfl, h17⟩
        exact asI_ok (fin (h17.perm (B := Gs * (Wr g (b1 ++ form b1.length y.s.size 4 ++ bytesS y.s) * (blk k7 #[.pointer (some ⟨g, 0, none⟩)] 57 * (blk k17 (va y) 24 * (blk k (va x) 24 * (blk k1 (va x) 24 * (F * G'))))))) (by ac_rfl)).right (by rw [form1, if_neg k1', if_neg k2, if_neg k3, if_pos k4, ← hb1]))
      · have k4 : y.kd ≠ 4 := by simpa using k4
        have k6 : y.kd = 6 := by simpa using k6
        refine ldP_ok (c7 h12) <| ldS_ok (cy 3 h12 rfl) <| arith_u64 (by omega) (by omega) <| call_mono (wire_Num_ok (size := 4) h12 rfl (by omega) (by show (y.l.length : Int) < 4294967296; omega) (by omega)) ?_
        rintro _ w12 ⟨rfl, h13⟩
        exact asI_ok (fin h13 (by rw [form1, if_neg k1', if_neg k2, if_neg k3, if_neg k4, if_pos k6, ← hb1]))
      · have k4 : y.kd ≠ 4 := by simpa using k4
        have k6 : y.kd ≠ 6 := by simpa using k6
        exact fin h12 (by rw [form1, if_neg k1', if_neg k2, if_neg k3, if_neg k4, if_neg k6, ← hb1])
  · intro D w7 h7
    rw [List.length_map, show (pre 0 x).length = (nd x).length by rw [nd, List.length_map]] at h7
    have h8 := h7.perm (B := Wr g (((nd x).take (nd x).length).foldl form1 []) * (blk k7 #[.pointer (some ⟨g, 0, none⟩)] 57 * (markH D * (blk k (va x) 24 * (blk k1 (va x) 24 * F))))) (by simp only [A]; ac_rfl)
    rw [List.take_length] at h8
    have hl : (encV x).length ≤ 68719476736 := by
      have := foldl_len (nd x) []
      simp only [List.length_nil, Nat.zero_add] at this
      unfold tw at hw
      show ((nd x).foldl form1 []).length ≤ _
      omega
    refine ldP_ok (h8.right.left.cell (i := 0) rfl) <| call_mono (wire_Bytes_ok h8 (by show (encV x).length ≤ _; omega)) ?_
    rintro _ w8 ⟨q, d, rfl, h9⟩
    refine asS_ok <| shutD_ok (h9.perm (B := markH D * (own T_uint8 1 q (encV x).length d (by8 (encV x)) * (Wr g (encV x) * (blk k7 #[.pointer (some ⟨g, 0, none⟩)] 57 * (blk k (va x) 24 * (blk k1 (va x) 24 * F)))))) (by
      show own T_uint8 1 q (encV x).length d (by8 (encV x)) * (Wr g (encV x) * _) = _
      ac_rfl)) fun w9 h10 => ⟨q, d, rfl, (h10.perm (B := (Wr g (encV x) * (blk k7 #[.pointer (some ⟨g, 0, none⟩)] 57 * (blk k (va x) 24 * blk k1 (va x) 24))) * (own T_uint8 1 q (encV x).length d (by8 (encV x)) * F)) (by ac_rfl)).right⟩
  · intro D c w7 h7
    exact ((h7.perm (B := prop False * markH D) (by first | ac_rfl | (dsimp only; ac_rfl))).prop).elim
end
end Go.Proofs.Ytmecgkeplkchcaa
