/- Values: the program's reading, part by part. No conditions. -/
import Derived.Test.YtmecgkeplkchcaaV6
import Derived.Test.YtmecgkeplkchcaaSpM
set_option linter.unusedVariables false
set_option linter.unusedSimpArgs false
set_option linter.unusedSectionVars false
set_option maxRecDepth 100000
namespace Go.Proofs.Ytmecgkeplkchcaa
open Go.Sp Go.RowKit

theorem mkeys : KeyTy Try.prog T_map_int_int T_int T_int (fun x : Int => Value.int .i64 x) (fun _ => True) := keyInt (by kernel_rfl) (by kernel_rfl)
theorem mzero (w : World) : (zeroValue T_int).run Try.prog w = .ok (.int .i64 0) w := by kernel_rfl
abbrev mI (r : Nat) (f : Int → Option Int) : HP := mapH (fun x : Int => Value.int .i64 x) (fun x : Int => Value.int .i64 x) (fun _ => True) r f
theorem strB_size (ns : List Int) : (strB ns).size = ns.length := by
  have := congrArg List.length (strB_data ns ByteArray.empty)
  simp only [List.length_append, List.length_map] at this
  show (strB ns).data.size = _
  rw [← Array.length_toList]
  unfold strB
  rw [this]
  exact Nat.zero_add _
theorem wrap_64_32 (n : Int) : IntKind.wrap .i64 (IntKind.wrap .i32 n) = IntKind.wrap .i32 n := by
  simp only [IntKind.wrap, IntKind.signed, IntKind.bits]
  simp
  split <;> split <;> omega
theorem wrap_32_in (n : Int) : -2147483648 ≤ IntKind.wrap .i32 n ∧ IntKind.wrap .i32 n ≤ 2147483647 := by
  simp only [IntKind.wrap, IntKind.signed, IntKind.bits]
  simp
  split <;> omega
theorem readR_lt {bs : List Int} {o : Nat} {s : Int} (hr : ∀ b ∈ bs, 0 ≤ b ∧ b ≤ 255) : (readR bs o s).1 < 256 ^ s.toNat := by
  unfold readR
  have h0 : (0 : Int) < 256 ^ s.toNat := Int.pow_pos (by decide)
  split
  · exact h0
  · dsimp only
    split
    · exact h0
    · split
      · exact h0
      · dsimp only
        have hm : ∀ b ∈ (bs.drop (o + (gapI o s).toNat)).take s.toNat, 0 ≤ b ∧ b ≤ 255 := fun b hb => hr b (List.mem_of_mem_drop (List.mem_of_mem_take hb))
        have h1 := (le_range _ hm).2
        refine Int.lt_of_lt_of_le h1 (pow256_le ?_)
        rw [List.length_take]
        omega
theorem readR_lt1 {bs : List Int} {o : Nat} (hr : ∀ b ∈ bs, 0 ≤ b ∧ b ≤ 255) : (readR bs o 1).1 < 256 := readR_lt (s := 1) hr
section
variable {w₀ w : World} {F : HP}
theorem lookI_ok {f : Int → Option Int} {r : Nat} {x m : Int} {K : Value → Prop} (h : Sat w₀ (mI r f * F) w) (hm : (f x).getD 0 = m) (hk : K (.int .i64 m)) : lookW Try.prog T_map_int_int (some r) (.int .i64 x) false w K := by
  refine look_ok mkeys h trivial (mzero w) ?_
  subst hm
  cases hf : f x with
  | none => rw [hf] at hk; exact hk
  | some v => rw [hf] at hk; exact hk
theorem va_set0 {k n : Int} {s : ByteArray} {p : Option Addr} {c : Nat} {l : List VT} (v : Int) : (va (.mk k n s p c l)).setIfInBounds 0 (.int .i64 v) = va (.mk v n s p c l) := rfl
theorem va_set1 {k n : Int} {s : ByteArray} {p : Option Addr} {c : Nat} {l : List VT} (v : Int) : (va (.mk k n s p c l)).setIfInBounds 1 (.int .i64 v) = va (.mk k v s p c l) := rfl
theorem va_set2 {k n : Int} {s : ByteArray} {p : Option Addr} {c : Nat} {l : List VT} (v : ByteArray) : (va (.mk k n s p c l)).setIfInBounds 2 (.string v) = va (.mk k n v p c l) := rfl
theorem va_set3 {k n : Int} {s : ByteArray} {p p' : Option Addr} {c c' : Nat} {l l' : List VT} : (va (.mk k n s p c l)).setIfInBounds 3 (.slice p' l'.length c') = va (.mk k n s p' c' l') := rfl
/-- What reading one answers. -/
def DecA (w₀ : World) (F : HP) (g : Nat) (bs : List Int) (r : VT × Nat × Int) (v : Value) (w : World) : Prop := ∃ x G o', v = .tuple #[.agg (va x), .int .i64 r.2.2] ∧ er x = er r.1 ∧ (r.2.2 = 0 → o' = r.2.1) ∧ o' ≤ bs.length ∧ VGives G x ∧ VIn x ∧ Sat w₀ (Rdr g bs o' * (G * F)) w
theorem dec_bad {g o o' : Nat} {bs : List Int} {e : Int} (he : e ≠ 0) (ho : o' ≤ bs.length) (h : Sat w₀ (Rdr g bs o' * F) w) : DecA w₀ F g bs (v0, o, e) (.tuple #[.agg (va v0), .int .i64 e]) w :=
  ⟨v0, emp, o', rfl, rfl, fun h => absurd h he, ho, v0_gives, v0_in, h.with_emp.perm (by ac_rfl)⟩
theorem dec_leaf {g o : Nat} {bs : List Int} {k n : Int} {s : ByteArray} (ho : o ≤ bs.length) (hI : VIn (.mk k n s none 0 [])) (h : Sat w₀ (Rdr g bs o * F) w) : DecA w₀ F g bs (.mk k n s none 0 [], o, 0) (.tuple #[.agg (va (.mk k n s none 0 [])), .int .i64 0]) w :=
  ⟨_, emp, o, rfl, rfl, fun _ => rfl, ho, leaf_gives, hI, h.with_emp.perm (by ac_rfl)⟩
theorem leaf_in {k n : Int} {s : ByteArray} (hk : -9223372036854775808 ≤ k ∧ k ≤ 9223372036854775807) (hn : -9223372036854775808 ≤ n ∧ n ≤ 9223372036854775807) (hs : s.size ≤ 9223372036854775807) : VIn (.mk k n s none 0 []) := .mk hk hn ⟨hs, by simp [VT.l]⟩ (fun y hy => by cases hy)
theorem variant_decode_ok {g : Nat} {bs : List Int} (hb : bs.length ≤ 140737488355328) (hr : ∀ b ∈ bs, 0 ≤ b ∧ b ≤ 255) : ∀ (f : Nat), f ≤ 8 → ∀ (o : Nat) (F : HP) (w : World), o ≤ bs.length → Sat w₀ (Rdr g bs o * F) w →
    call Try.prog fn_variant_decode #[.pointer (some ⟨g, 0, none⟩), .int .i64 (8 - f)] w (DecA w₀ F g bs (rdV bs f o)) := by
  intro f
  induction f with
  | zero =>
    intro _ o F w ho h
    apply variant_decode_call
    unfold variant_decode
    refine new_ok h fun k1 w1 h1 => br_true (by simp) <| stA_ok h1 rfl rfl (va_one v0) fun w2 h2 => ?_
    have h2 : Sat w₀ (blk k1 (va v0) 24 * (Rdr g bs o * F)) w2 := h2
    exact ldV4 h2 (dec_bad (by decide) ho h2.right)
  | succ f ih =>
    intro hf8 o F w ho h
    apply variant_decode_call
    unfold variant_decode
    refine new_ok h fun k1 w1 h1 => br_false (by simp; omega) ?_
    have h1 : Sat w₀ (Rdr g bs o * (blk k1 (va v0) 24 * F)) w1 := h1.perm (by show blk k1 (va v0) 24 * (Rdr g bs o * F) = _; ac_rfl)
    refine call_mono (wire_Reader_Num_ok (size := 1) h1 ho hb hr) ?_
    rintro _ w3 ⟨rfl, b1, h3⟩
    obtain ⟨r, hrr⟩ : ∃ r, rdV bs (f + 1) o = r := ⟨_, rfl⟩
    rw [hrr]
    have q1 := readR_num (bs := bs) (at_ := o) (size := 1) hr
    have q1' := readR_lt1 (o := o) hr
    have q1z := (readR_at (size := 1) ho).2.2
    rw [rdV] at hrr
    obtain ⟨⟨n1, o1, e1⟩, E1⟩ : ∃ t, readR bs o 1 = t := ⟨_, rfl⟩
    simp only [E1] at hrr b1 h3 q1 q1' q1z ⊢
    refine ⟨_, _, rfl, arith_i64 (by omega) (by omega) <| st_ok (i := 0) (h3.perm (B := blk k1 (va v0) 24 * (Rdr g bs o1 * F)) (by ac_rfl)) (by decide) fun w4 h4 => ?_⟩
    rw [show va v0 = va (.mk 0 0 ByteArray.empty none 0 []) from rfl, va_set0] at h4
    have h4 : Sat w₀ (blk k1 (va (.mk n1 0 ByteArray.empty none 0 [])) 24 * (Rdr g bs o1 * F)) w4 := h4
    refine ldI_ok (n := n1) (cell_blk h4 (i := 0) rfl) <| br_split (fun k0 => ?_) (fun k0 => ?_)
    · have k0 : n1 = 0 := by simpa using k0
      subst k0
      by_cases he : e1 = 0
      · subst he
        rw [if_neg (by simp), if_pos rfl] at hrr
        subst hrr
        exact good_ok h4 fun w' h' => dec_leaf b1 (leaf_in (by decide) (by decide) (by decide)) h'
      · rw [if_pos he] at hrr
        subst hrr
        exact bad_ok h4 rfl he fun w' h' => dec_bad he b1 h'
    have k0 : n1 ≠ 0 := by simpa using k0
    have he1 : e1 = 0 := by
      by_cases he : e1 = 0
      · exact he
      · exact absurd (q1z he).2 k0
    subst he1
    rw [if_neg (by simp), if_neg k0] at hrr
    refine ⟨fun b w => (b = true ↔ n1 = 1 ∨ n1 = 2 ∨ n1 = 3 ∨ n1 = 5) ∧ w = w4, ?_, ?_⟩
    · refine br_split (fun h => ⟨?_, rfl⟩) (fun h => br_split (fun h' => ⟨?_, rfl⟩) (fun h' => br_split (fun h'' => ⟨?_, rfl⟩) (fun h'' => ⟨?_, rfl⟩))) <;> simp at * <;> omega
    rintro u b _ ⟨hb7, rfl⟩
    refine br_split (fun kb => ?_) (fun kb => ?_)
    · have kb := hb7.1 kb
      rw [if_pos kb] at hrr
      refine newM_ok (fun x : Int => Value.int .i64 x) (fun x : Int => Value.int .i64 x) (fun _ => True) h4 fun k14 w8 h8 => setM_ok mkeys (x := 1) (v := 1) h8 trivial fun w9 h9 => setM_ok mkeys (x := 2) (v := 4) h9 trivial fun w10 h10 => ?_
      have h10' := h10.right
      refine ldI_ok (n := n1) (cell_blk h10' (i := 0) rfl) <| lookI_ok (m := if n1 = 1 then 1 else if n1 = 2 then 4 else 0) h10 (by
        rcases kb with rfl | rfl | rfl | rfl <;> rfl) <| asI_ok ⟨fun n w => n = sizeK n1 ∧ w = w10, ?_, ?_⟩
      · refine br_split (fun h => ⟨?_, rfl⟩) (fun h => ⟨?_, rfl⟩) <;> rcases kb with rfl | rfl | rfl | rfl <;> simp [sizeK] at *
      rintro u n20 _ ⟨rfl, rfl⟩
      refine call_mono (wire_Reader_Num_ok (size := sizeK n1) (h10'.perm (B := Rdr g bs o1 * (blk k1 (va (.mk n1 0 ByteArray.empty none 0 [])) 24 * F)) (by ac_rfl)) b1 hb hr) ?_
      rintro _ w12 ⟨rfl, b2, h12⟩
      have q2 := readR_num (bs := bs) (at_ := o1) (size := sizeK n1) hr
      have q2l := readR_lt (bs := bs) (o := o1) (s := sizeK n1) hr
      obtain ⟨⟨n2, o2, e2⟩, E2⟩ : ∃ t, readR bs o1 (sizeK n1) = t := ⟨_, rfl⟩
      simp only [E2] at hrr b2 h12 q2 q2l ⊢
      have h12 := h12.perm (B := blk k1 (va (.mk n1 0 ByteArray.empty none 0 [])) 24 * (Rdr g bs o2 * F)) (by ac_rfl)
      refine ⟨_, _, rfl, br_split (fun he => ?_) (fun he => ?_)⟩
      · have he : e2 ≠ 0 := by simpa using he
        rw [if_pos he] at hrr
        subst hrr
        exact bad_ok h12 rfl he fun w' h' => dec_bad he b2 h'
      · have he : e2 = 0 := by simpa using he
        subst he
        rw [if_neg (by simp)] at hrr
        refine arith_raw <| st_ok (i := 1) h12 (show 1 < 4 by decide) fun w15 h15 => ?_
        rw [va_set1] at h15
        have h15 : Sat w₀ (blk k1 (va (.mk n1 (IntKind.wrap .i64 n2) ByteArray.empty none 0 [])) 24 * (Rdr g bs o2 * F)) w15 := h15
        -- what 'right' says, and the end
        have fin : ∀ {N : Int} {w : World}, numK n1 n2 = N → -9223372036854775808 ≤ N ∧ N ≤ 9223372036854775807 → Sat w₀ (blk k1 (va (.mk n1 N ByteArray.empty none 0 [])) 24 * (Rdr g bs o2 * F)) w →
            ldA (⟨k1, 0, none⟩ : Addr) 4 w fun g31 => call Try.prog 27 #[.agg g31] w fun v32 w17 => asB v32 fun b33 =>
              br (!b33) (
                br ((5 : Int) != 0) (stA Try.prog (⟨k1, 0, none⟩ : Addr) 4 #[.int .i64 0, .int .i64 0, .string ByteArray.empty, .slice none 0 0] w17 fun w18 => ldA (⟨k1, 0, none⟩ : Addr) 4 w18 fun g34 => DecA w₀ F g bs r (.tuple #[.agg g34, .int .i64 5]) w18) (
                ldA (⟨k1, 0, none⟩ : Addr) 4 w17 fun g35 => stA Try.prog (⟨k1, 0, none⟩ : Addr) 4 g35 w17 fun w19 => ldA (⟨k1, 0, none⟩ : Addr) 4 w19 fun g36 => DecA w₀ F g bs r (.tuple #[.agg g36, .int .i64 0]) w19)) (
                br ((0 : Int) != 0) (stA Try.prog (⟨k1, 0, none⟩ : Addr) 4 #[.int .i64 0, .int .i64 0, .string ByteArray.empty, .slice none 0 0] w17 fun w20 => ldA (⟨k1, 0, none⟩ : Addr) 4 w20 fun g37 => DecA w₀ F g bs r (.tuple #[.agg g37, .int .i64 0]) w20) (
                ldA (⟨k1, 0, none⟩ : Addr) 4 w17 fun g38 => stA Try.prog (⟨k1, 0, none⟩ : Addr) 4 g38 w17 fun w21 => ldA (⟨k1, 0, none⟩ : Addr) 4 w21 fun g39 => DecA w₀ F g bs r (.tuple #[.agg g39, .int .i64 0]) w21)) := by
          intro N w hN hNr h
          refine ldV4 h <| call_mono (variant_right_ok h) ?_
          rintro _ w17 ⟨rfl, h17⟩
          have noE : noS ByteArray.empty = true := by
            show (ByteArray.empty.toList == ByteArray.empty.toList) = true
            simp
          have fB : formB (.mk n1 N ByteArray.empty none 0 []) = true ↔ ¬ (n1 = 1 ∧ n2 > 1) := by
            unfold formB
            simp only [VT.kd, VT.n, VT.s, VT.l, noE, List.length_nil]
            rcases kb with rfl | rfl | rfl | rfl
            · have q : n2 < 256 := q2l
              have e : N = n2 := by
                rw [← hN, numK, if_neg (by decide), IntKind.wrap_i64]
                omega
              rw [e]
              have q0 : 0 ≤ n2 := q2.1
              have hd : (n2 = 0 ∨ n2 = 1) ↔ ¬ (1 < n2) := by omega
              simp
              constructor
              · intro h
                have := of_decide_eq_true h
                omega
              · intro h
                exact decide_eq_true (by omega)
            · have := wrap_32_in n2
              rw [numK, if_pos rfl] at hN
              rw [hN] at this
              simp [this]
            · simp
            · simp
          refine asB_ok <| br_split (fun hf => ?_) (fun hf => ?_)
          · rw [if_pos (by
              by_cases hc : n1 = 1 ∧ n2 > 1
              · exact hc
              · rw [fB.2 hc] at hf; cases hf)] at hrr
            subst hrr
            exact bad_ok h17 rfl (by decide) fun w' h' => dec_bad (by decide) b2 h'
          · have hf : formB (.mk n1 N ByteArray.empty none 0 []) = true := by simpa using hf
            rw [if_neg (fB.1 hf), hN] at hrr
            subst hrr
            exact good_ok h17 fun w' h' => dec_leaf b2 (leaf_in (by omega) hNr (by decide)) h'
        refine ldI_ok (n := n1) (cell_blk h15 (i := 0) rfl) <| br_split (fun k2 => ?_) (fun k2 => ?_)
        · have k2 : n1 = 2 := by simpa using k2
          refine arith_raw <| arith_raw <| st_ok (i := 1) h15 (show 1 < 4 by decide) fun w16 h16 => ?_
          rw [wrap_64_32, va_set1] at h16
          have h16 : Sat w₀ (blk k1 (va (.mk n1 (IntKind.wrap .i32 n2) ByteArray.empty none 0 [])) 24 * (Rdr g bs o2 * F)) w16 := h16
          have := wrap_32_in n2
          exact fin (by rw [numK, if_pos k2]) (by omega) h16
        · have k2 : n1 ≠ 2 := by simpa using k2
          exact fin (by rw [numK, if_neg k2]) (wrap_in n2) h15
    have kb : ¬ (n1 = 1 ∨ n1 = 2 ∨ n1 = 3 ∨ n1 = 5) := fun h => by rw [hb7.2 h] at kb; cases kb
    rw [if_neg kb] at hrr
    refine br_split (fun k4 => ?_) (fun k4 => ?_)
    · have k4 : n1 = 4 := by simpa using k4
      rw [if_pos k4] at hrr
      have tl : (textR bs o1 256).1.length ≤ bs.length := by
        unfold textR
        dsimp only
        split
        · exact Nat.zero_le _
        · split
          · exact Nat.zero_le _
          · split
            · exact Nat.zero_le _
            · simp only [List.length_take, List.length_drop]; omega
      have tat := textR_at (most := 256) b1
      refine call_mono (wire_Reader_Text_ok (most := 256) (h4.perm (B := Rdr g bs o1 * (blk k1 (va (.mk n1 0 ByteArray.empty none 0 [])) 24 * F)) (by ac_rfl)) b1 hb hr (by decide)) ?_
      rintro _ w27 ⟨q, d, rfl, h27⟩
      obtain ⟨⟨t2, o2, e2⟩, E2⟩ : ∃ t, textR bs o1 256 = t := ⟨_, rfl⟩
      simp only [E2] at hrr tl tat h27 ⊢
      refine ⟨_, _, _, _, rfl, conv_bytes h27.left.rd <| st_ok (i := 2) ((h27.right).perm (B := blk k1 (va (.mk n1 0 ByteArray.empty none 0 [])) 24 * (Rdr g bs o2 * F)) (by ac_rfl)) (show 2 < 4 by decide) fun w29 h29 => ?_⟩
      rw [va_set2] at h29
      have h29 : Sat w₀ (blk k1 (va (.mk n1 0 (strB t2) none 0 [])) 24 * (Rdr g bs o2 * F)) w29 := h29
      by_cases he : e2 = 0
      · subst he
        rw [if_neg (by simp)] at hrr
        subst hrr
        subst k4
        exact good_ok h29 fun w' h' => dec_leaf tat (leaf_in (by decide) (by decide) (by rw [strB_size]; omega)) h'
      · rw [if_pos he] at hrr
        subst hrr
        exact bad_ok h29 rfl he fun w' h' => dec_bad he tat h'
    have k4 : n1 ≠ 4 := by simpa using k4
    rw [if_neg k4] at hrr
    refine br_split (fun k6 => ?_) (fun k6 => ?_)
    · have k6 : n1 = 6 := by simpa using k6
      rw [if_pos k6] at hrr
      subst k6
      let L := fun (i : Nat) (o2 : Nat) => rdL (rdV bs f) i o2
      let Z := fun (n o2 : Nat) => if (L n o2).2.2 ≠ 0 then ((v0, o, (L n o2).2.2) : VT × Nat × Int) else (.mk 6 0 ByteArray.empty none 0 (L n o2).1, (L n o2).2.1, 0)
      refine ⟨fun e n w => ∃ o2, Sat w₀ (blk k1 (va (.mk 6 0 ByteArray.empty none 0 [])) 24 * (Rdr g bs o2 * F)) w ∧ o2 ≤ bs.length ∧ 0 ≤ n ∧ n ≤ 18446744073709551615 ∧ ((e ≠ 0 ∧ r = (v0, o, e)) ∨ (e = 0 ∧ n ≤ 64 ∧ r = Z n.toNat o2)), ?_, ?_⟩
      · refine call_mono (wire_Reader_Num_ok (size := 4) (h4.perm (B := Rdr g bs o1 * (blk k1 (va (.mk 6 0 ByteArray.empty none 0 [])) 24 * F)) (by ac_rfl)) b1 hb hr) ?_
        rintro _ w32 ⟨rfl, b2, h32⟩
        have q2 := readR_num (bs := bs) (at_ := o1) (size := 4) hr
        obtain ⟨⟨n2, o2, e2⟩, E2⟩ : ∃ t, readR bs o1 4 = t := ⟨_, rfl⟩
        simp only [E2] at hrr b2 h32 q2 ⊢
        have h32 := h32.perm (B := blk k1 (va (.mk 6 0 ByteArray.empty none 0 [])) 24 * (Rdr g bs o2 * F)) (by ac_rfl)
        refine ⟨_, _, rfl, br_split (fun he => br_dec (fun hg => ?_) (fun hg => ?_)) (fun he => ?_)⟩
        · have he : e2 = 0 := by simpa using he
          subst he
          rw [if_neg (by simp), if_pos hg] at hrr
          exact ⟨o2, h32, b2, q2.1, q2.2, .inl ⟨by decide, hrr.symm⟩⟩
        · have he : e2 = 0 := by simpa using he
          subst he
          rw [if_neg (by simp), if_neg hg] at hrr
          exact ⟨o2, h32, b2, q2.1, q2.2, .inr ⟨rfl, by omega, hrr.symm⟩⟩
        · have he : e2 ≠ 0 := by simpa using he
          rw [if_pos he] at hrr
          exact ⟨o2, h32, b2, q2.1, q2.2, .inl ⟨he, hrr.symm⟩⟩
      clear hrr
      rintro u e n w33 ⟨o2, h33, b2, n0, n64, hor⟩
      refine ⟨fun e i w m => ∃ (xs : List VT) (p : Option Addr) (c : Nat) (G : HP) (o3 : Nat), 0 ≤ i ∧ m = (n - i).toNat ∧ Sat w₀ (blk k1 (va (.mk 6 0 ByteArray.empty p c xs)) 24 * (own T_api_Var 4 p xs.length c (xs.flatMap vc) * (G * (Rdr g bs o3 * F)))) w ∧ (∀ x ∈ xs, VGives G x ∧ VIn x) ∧ o3 ≤ bs.length ∧ ((e ≠ 0 ∧ r = (v0, o, e)) ∨ (e = 0 ∧ n ≤ 64 ∧ r = Z n.toNat o2 ∧ i ≤ n ∧ xs.length = i.toNat ∧ (L i.toNat o2).2.2 = 0 ∧ xs.map er = (L i.toNat o2).1.map er ∧ o3 = (L i.toNat o2).2.1)), ⟨_, [], none, 0, emp, o2, by omega, rfl, ?_, (fun x hx => by cases hx), b2, ?_⟩, ?_⟩
      · exact ((h33.own_nil T_api_Var 4).with_emp).perm (by show emp * (own T_api_Var 4 none 0 0 [] * _) = blk k1 (va (.mk 6 0 ByteArray.empty none 0 [])) 24 * (own T_api_Var 4 none 0 0 [] * _); ac_rfl)
      · rcases hor with h | ⟨h1, h2, h3⟩
        · exact .inl h
        · exact .inr ⟨h1, h2, h3, n0, rfl, rfl, rfl, rfl⟩
      rintro u e' i w34 m ⟨xs, p, c, G, o3, i0, rfl, h34, hxs, b3, hor'⟩
      have bad : ∀ {X : Prop}, e' ≠ 0 → br ((e' : Int) != 0) (stA Try.prog (⟨k1, 0, none⟩ : Addr) 4 #[.int .i64 0, .int .i64 0, .string ByteArray.empty, .slice none 0 0] w34 fun w2 => ldA (⟨k1, 0, none⟩ : Addr) 4 w2 fun g' => DecA w₀ F g bs r (.tuple #[.agg g', .int .i64 e']) w2) X := by
        intro X he
        rcases hor' with ⟨_, rfl⟩ | ⟨h, _⟩
        · exact bad_ok h34 rfl he fun w' h' => dec_bad he b3 ((h'.right.right))
        · exact absurd h he
      refine br_dec (fun hlt => br_split (fun he => bad (by simpa using he)) (fun he => ?_)) (fun hge => ?_)
      · have he : e' = 0 := by simpa using he
        subst he
        rcases hor' with ⟨h, _⟩ | ⟨_, hn64, hrZ, hin, hxl, hL0, hxL, ho3⟩
        · exact absurd rfl h
        refine new_ok h34 fun k72 w37 h37 => arith_i64 (by omega) (by omega) ?_
        have h37 := h37.perm (B := Rdr g bs o3 * (blk k72 (va v0) 24 * (blk k1 (va (.mk 6 0 ByteArray.empty p c xs)) 24 * (own T_api_Var 4 p xs.length c (xs.flatMap vc) * (G * F))))) (by show blk k72 (va v0) 24 * _ = _; ac_rfl)
        rw [show (8 - ((f + 1 : Nat) : Int) + 1 : Int) = 8 - (f : Int) by omega]
        refine call_mono (ih (by omega) o3 _ w37 b3 h37) ?_
        rintro _ w38 ⟨y, Gy, o4, rfl, hey, ho4, b4, hGy, hIy, h38⟩
        have sn := rdL_snoc (rdV bs f) i.toNat o2 hL0
        rw [show (rdL (rdV bs f) i.toNat o2).2.1 = o3 from ho3.symm] at sn
        obtain ⟨⟨y0, oy, ey⟩, EY⟩ : ∃ t, rdV bs f o3 = t := ⟨_, rfl⟩
        simp only [EY] at hey ho4 sn ⊢
        refine ⟨_, _, rfl, stA_ok (h38.perm (B := blk k72 (va v0) 24 * (blk k1 (va (.mk 6 0 ByteArray.empty p c xs)) 24 * (own T_api_Var 4 p xs.length c (xs.flatMap vc) * (Gy * G * (Rdr g bs o4 * F))))) (by ac_rfl)) rfl rfl (va_one y) fun w39 h39 => ?_⟩
        have h39 : Sat w₀ (blk k72 (va y) 24 * (blk k1 (va (.mk 6 0 ByteArray.empty p c xs)) 24 * (own T_api_Var 4 p xs.length c (xs.flatMap vc) * (Gy * G * (Rdr g bs o4 * F))))) w39 := h39
        refine br_split (fun he => ?_) (fun he => ?_)
        · have he : ey = 0 := by simpa using he
          subst he
          rw [if_neg (by simp)] at sn
          have ef : xs.flatMap vc ++ (va y).toList = (xs ++ [y]).flatMap vc := by simp [va]
          have el : xs.length + 1 = (xs ++ [y]).length := by simp
          refine ldS_ok (cell_blk h39.right (i := 3) (show (va (.mk 6 0 ByteArray.empty p c xs))[3]? = some (.slice p xs.length c) from rfl)) <| ldV4 h39 ⟨rfl, new_ok h39 fun k79 w40 h40 => ?_⟩
          have rd40 := h40.left.rd_ob (sz := 4) (l := 1) (by rfl)
          refine app_ok varTy (h40.perm (B := own T_api_Var 4 p xs.length c (xs.flatMap vc) * (blk k1 (va (.mk 6 0 ByteArray.empty p c xs)) 24 * (Gy * G * (Rdr g bs o4 * F) * (blk k72 (va y) 24 * blk k79 (va y) 24)))) (by ac_rfl)) rd40 (va_one y) (by simp only [maxLen]; omega) (by omega) fun p' c' w41 h41 => ?_
          rw [ef, el] at h41
          rw [el]
          refine st_ok (i := 3) (h41.perm (B := blk k1 (va (.mk 6 0 ByteArray.empty p c xs)) 24 * (own T_api_Var 4 p' (xs ++ [y]).length c' ((xs ++ [y]).flatMap vc) * (Gy * G * (Rdr g bs o4 * F) * (blk k72 (va y) 24 * blk k79 (va y) 24)))) (by ac_rfl)) (show 3 < 4 by decide) fun w42 h42 => ?_
          rw [va_set3] at h42
          have h42 := (h42.perm (B := (blk k72 (va y) 24 * blk k79 (va y) 24) * (blk k1 (va (.mk 6 0 ByteArray.empty p' c' (xs ++ [y]))) 24 * (own T_api_Var 4 p' (xs ++ [y]).length c' ((xs ++ [y]).flatMap vc) * (Gy * G * (Rdr g bs o4 * F))))) (by show blk k1 _ 24 * _ = _; ac_rfl)).right
          have ei : (i + 1).toNat = i.toNat + 1 := by omega
          refine arith_u64 (by omega) (by omega) ⟨_, ?_, xs ++ [y], p', c', Gy * G, o4, by omega, rfl, h42, fun x hx => ?_, b4, .inr ⟨rfl, hn64, hrZ, by omega, by rw [← el, hxl, ei], ?_, ?_, ?_⟩⟩
          · omega
          · rcases List.mem_append.1 hx with hx | hx
            · exact ⟨VGives.right (hxs x hx).1, (hxs x hx).2⟩
            · obtain rfl := List.mem_singleton.1 hx
              exact ⟨VGives.left hGy, hIy⟩
          · rw [ei]; show (rdL (rdV bs f) (i.toNat + 1) o2).2.2 = 0; rw [sn]
          · rw [ei]; show _ = (rdL (rdV bs f) (i.toNat + 1) o2).1.map er; rw [sn, List.map_append, List.map_append, hxL]
            show _ ++ [er y] = _ ++ [er y0]
            rw [hey]
          · rw [ei]; show _ = (rdL (rdV bs f) (i.toNat + 1) o2).2.1; rw [sn]; exact ho4 rfl
        · have he : ey ≠ 0 := by simpa using he
          rw [if_pos he] at sn
          have el := rdL_fail (rdV bs f) (i.toNat + 1) n.toNat o2 (by omega) (by rw [sn]; exact he)
          rw [sn] at el
          refine arith_u64 (by omega) (by omega) ⟨_, ?_, xs, p, c, Gy * G, o4, by omega, rfl, h39.right, fun x hx => ⟨VGives.right (hxs x hx).1, (hxs x hx).2⟩, b4, .inl ⟨he, ?_⟩⟩
          · omega
          · rw [hrZ]
            show (if (rdL (rdV bs f) n.toNat o2).2.2 ≠ 0 then _ else _) = _
            rw [el, if_pos he]
      · by_cases he : e' = 0
        · subst he
          rcases hor' with ⟨h, _⟩ | ⟨_, hn64, hrZ, hin, hxl, hL0, hxL, ho3⟩
          · exact absurd rfl h
          have hni : i = n := by omega
          subst hni
          refine good_ok h34 fun w' h' => ⟨.mk 6 0 ByteArray.empty p c xs, own T_api_Var 4 p xs.length c (xs.flatMap vc) * G, o3, ?_, ?_, ?_, b3, VGives.mk (Gives.left Gives.own) (fun y hy => VGives.right (hxs y hy).1), ?_, h'.perm (by ac_rfl)⟩
          · rw [hrZ]; simp only [Z]; rw [if_neg (by simp [hL0])]
          · rw [hrZ]; simp only [Z]; rw [if_neg (by simp [hL0])]
            rw [er_iff]
            exact ⟨rfl, rfl, rfl, hxL⟩
          · rw [hrZ]; simp only [Z]; rw [if_neg (by simp [hL0])]
            exact fun _ => ho3
          · exact .mk (show (-9223372036854775808 : Int) ≤ 6 ∧ (6 : Int) ≤ 9223372036854775807 by decide) (show (-9223372036854775808 : Int) ≤ 0 ∧ (0 : Int) ≤ 9223372036854775807 by decide) ⟨show ByteArray.empty.size ≤ 9223372036854775807 by decide, by show xs.length ≤ _; omega⟩ (fun y hy => (hxs y hy).2)
        · exact bad he
    · have k6 : n1 ≠ 6 := by simpa using k6
      rw [if_neg k6] at hrr
      subst hrr
      exact bad_ok h4 rfl (by decide) fun w' h' => dec_bad (by decide) b1 h'
end
end Go.Proofs.Ytmecgkeplkchcaa
