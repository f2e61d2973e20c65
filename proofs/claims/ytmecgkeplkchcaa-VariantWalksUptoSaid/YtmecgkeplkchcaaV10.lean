/- Values: the document's reading. No conditions. -/
import Derived.Test.YtmecgkeplkchcaaV9
set_option linter.unusedVariables false
set_option linter.unusedSimpArgs false
set_option linter.unusedSectionVars false
set_option maxRecDepth 100000
namespace Go.Proofs.Ytmecgkeplkchcaa
open Go.Sp Go.RowKit

section
variable {w₀ w : World} {F A : HP}
/-- What the document's reading of one answers. -/
def RdA (w₀ : World) (F : HP) (r : VT × Nat × Int) (v : Value) (w : World) : Prop := ∃ (x : VT) (G : HP) (o' : Nat), v = .tuple #[.agg (va x), .int .i64 o', .int .i64 r.2.2] ∧ er x = er r.1 ∧ (r.2.2 = 0 → o' = r.2.1) ∧ VGives G x ∧ VIn x ∧ Sat w₀ (G * F) w
/-- One value's cells, read and laid into the answer's. -/
theorem out_ok {k k1 : Nat} {x : VT} {cs : Array Value} {R : Array Value → World → Prop} (h : Sat w₀ (blk k (va x) 24 * A) w) (h' : Sat w₀ (blk k1 cs 24 * F) w) (hc : cs.size = 4) (hk : ∀ w', Sat w₀ (blk k1 (va x) 24 * F) w' → R (va x) w') :
    ldA (⟨k, 0, none⟩ : Addr) 4 w fun g => stA Try.prog (⟨k1, 0, none⟩ : Addr) 4 g w fun w2 => ldA (⟨k1, 0, none⟩ : Addr) 4 w2 fun g' => R g' w2 := by
  refine ldV4 h <| stA_ok h' hc rfl (va_one x) fun w2 h2 => ?_
  have h2 : Sat w₀ (blk k1 (va x) 24 * F) w2 := h2
  exact ldV4 h2 (hk _ h2)
theorem rdL_at {bs : List Int} {f : Nat → VT × Nat × Int} (hf : ∀ o, o ≤ bs.length → (f o).2.2 = 0 → (f o).2.1 ≤ bs.length) : ∀ (n o : Nat), o ≤ bs.length → (rdL f n o).2.1 ≤ bs.length := by
  intro n
  induction n with
  | zero => intro o h; exact h
  | succ n ih =>
    intro o h
    rw [rdL]
    split
    · exact h
    · split
      · exact h
      · exact ih _ (hf o h (by simpa using ‹¬ (f o).2.2 ≠ 0›))
theorem rdV_at {bs : List Int} : ∀ (f o : Nat), o ≤ bs.length → (rdV bs f o).2.2 = 0 → (rdV bs f o).2.1 ≤ bs.length := by
  intro f
  induction f with
  | zero => intro o h _; exact h
  | succ f ih =>
    intro o h _
    have b1 := (readR_at (size := 1) h).1
    have b2 : ∀ s, (readR bs (readR bs o 1).2.1 s).2.1 ≤ bs.length := fun s => (readR_at (size := s) b1).1
    have b3 := textR_at (most := 256) b1
    rw [rdV]
    dsimp only
    repeat' split
    all_goals first | exact h | exact b1 | exact b2 _ | exact b3 | exact rdL_at ih _ _ (b2 _)
theorem tenonref06_Read_ok {p : Option Addr} {c : Nat} {bs : List Int} (hc : bs.length ≤ c) (hb : bs.length ≤ 140737488355328) (hr : ∀ b ∈ bs, 0 ≤ b ∧ b ≤ 255) : ∀ (f : Nat), f ≤ 8 → ∀ (o : Nat) (F : HP) (w : World), o ≤ bs.length → Gives F 1 p bs.length (by8 bs) → Sat w₀ F w →
    call Try.prog fn_tenonref06_Read #[.slice p bs.length c, .int .i64 o, .int .i64 (9 - f)] w (RdA w₀ F (rdV bs f o)) := by
  intro f
  induction f with
  | zero =>
    intro _ o F w ho gx h
    apply tenonref06_Read_call
    unfold tenonref06_Read
    refine new_ok h fun k1 w1 h1 => new_ok h1 fun k2 w2 h2 => stA_ok h2 rfl rfl (va_one v0) fun w3 h3 => br_true (by simp) ?_
    have h3 : Sat w₀ (blk k2 (va v0) 24 * (blk k1 (va v0) 24 * F)) w3 := h3
    exact out_ok h3 (h3.perm (B := blk k1 (va v0) 24 * (blk k2 (va v0) 24 * F)) (by ac_rfl)) rfl fun w' h' => ⟨v0, emp, o, rfl, rfl, (fun h => by cases h), v0_gives, v0_in, h'.right.right.with_emp⟩
  | succ f ih =>
    intro hf8 o F w ho gx h
    apply tenonref06_Read_call
    unfold tenonref06_Read
    refine new_ok h fun k1 w1 h1 => new_ok h1 fun k2 w2 h2 => stA_ok h2 rfl rfl (va_one v0) fun w3 h3 => br_false (by simp; omega) ?_
    have h3 : Sat w₀ (blk k2 (va v0) 24 * (blk k1 (va v0) 24 * F)) w3 := h3
    obtain ⟨r, hrr⟩ : ∃ r, rdV bs (f + 1) o = r := ⟨_, rfl⟩
    rw [hrr]
    have bad : ∀ {w : World} {e : Int} {X : HP}, e ≠ 0 → (v0, o, e) = r → Sat w₀ (X * (blk k2 (va v0) 24 * (blk k1 (va v0) 24 * F))) w →
        ldA (⟨k2, 0, none⟩ : Addr) 4 w fun g => stA Try.prog (⟨k1, 0, none⟩ : Addr) 4 g w fun w2 => ldA (⟨k1, 0, none⟩ : Addr) 4 w2 fun g' => RdA w₀ F r (.tuple #[.agg g', .int .i64 o, .int .i64 e]) w2 := by
      rintro w e X he rfl h
      exact out_ok (h.perm (B := blk k2 (va v0) 24 * (blk k1 (va v0) 24 * F * X)) (by ac_rfl)) (h.perm (B := blk k1 (va v0) 24 * (blk k2 (va v0) 24 * X * F)) (by ac_rfl)) rfl fun w' h' => ⟨v0, emp, o, rfl, rfl, fun h => absurd h he, v0_gives, v0_in, h'.right.right.with_emp⟩
    refine call_pure' (tenonref05_Read_ok (size := 1) (gx _ _ h3.right.right) ho hb hr) ?_
    have b1 := (readR_at (size := 1) ho).1
    have q1 := readR_num (bs := bs) (at_ := o) (size := 1) hr
    have q1' := readR_lt1 (o := o) hr
    rw [rdV] at hrr
    obtain ⟨⟨n1, o1, e1⟩, E1⟩ : ∃ t, readR bs o 1 = t := ⟨_, rfl⟩
    simp only [E1] at hrr b1 q1 q1' ⊢
    refine ⟨_, _, _, rfl, br_split (fun he => ?_) (fun he => ?_)⟩
    · have he : e1 ≠ 0 := by simpa using he
      rw [if_pos he] at hrr
      exact bad he hrr h3.with_emp
    have he : e1 = 0 := by simpa using he
    subst he
    rw [if_neg (by simp)] at hrr
    refine arith_i64 (by omega) (by omega) <| new_ok h3 fun k12 w7 h7 => stA_ok h7 rfl rfl (va_one (.mk n1 0 ByteArray.empty none 0 [])) fun w8 h8 => ?_
    have h8 : Sat w₀ (blk k12 (va (.mk n1 0 ByteArray.empty none 0 [])) 24 * (blk k2 (va v0) 24 * (blk k1 (va v0) 24 * F))) w8 := h8
    have good : ∀ {w : World} {n : Int} {s : ByteArray} {o' : Nat}, (.mk n1 n s none 0 [], o', 0) = r → VIn (.mk n1 n s none 0 []) → Sat w₀ (blk k12 (va (.mk n1 n s none 0 [])) 24 * (blk k2 (va v0) 24 * (blk k1 (va v0) 24 * F))) w →
        ldA (⟨k12, 0, none⟩ : Addr) 4 w fun g => stA Try.prog (⟨k1, 0, none⟩ : Addr) 4 g w fun w2 => ldA (⟨k1, 0, none⟩ : Addr) 4 w2 fun g' => RdA w₀ F r (.tuple #[.agg g', .int .i64 o', .int .i64 0]) w2 := by
      rintro w n s o' rfl hI h
      exact out_ok h (h.perm (B := blk k1 (va v0) 24 * (blk k12 (va (.mk n1 n s none 0 [])) 24 * blk k2 (va v0) 24 * F)) (by ac_rfl)) rfl fun w' h' => ⟨_, emp, o', rfl, rfl, fun _ => rfl, leaf_gives, hI, h'.right.right.with_emp⟩
    have rk : -9223372036854775808 ≤ n1 ∧ n1 ≤ 9223372036854775807 := by omega
    refine br_split (fun k0 => ?_) (fun k0 => ?_)
    · have k0 : n1 = 0 := by simpa using k0
      rw [if_pos k0] at hrr
      refine good ?_ (leaf_in rk (by omega) (by decide)) h8
      rw [← hrr, k0]
    have k0 : n1 ≠ 0 := by simpa using k0
    rw [if_neg k0] at hrr
    refine ⟨fun b w => (b = true ↔ n1 = 1 ∨ n1 = 2 ∨ n1 = 3 ∨ n1 = 5) ∧ w = w8, ?_, ?_⟩
    · refine br_split (fun h => ⟨?_, rfl⟩) (fun h => br_split (fun h' => ⟨?_, rfl⟩) (fun h' => br_split (fun h'' => ⟨?_, rfl⟩) (fun h'' => ⟨?_, rfl⟩))) <;> simp at * <;> omega
    rintro u b w8 ⟨hb7, rfl⟩
    refine br_split (fun kb => ?_) (fun kb => ?_)
    · have kb := hb7.1 kb
      rw [if_pos kb] at hrr
      refine ⟨fun n w => n = (if n1 = 1 then 1 else 8) ∧ w = w8, ?_, ?_⟩
      · refine br_split (fun h => ⟨?_, rfl⟩) (fun h => ⟨?_, rfl⟩) <;> simp at h <;> simp [h]
      rintro u na w8 ⟨hna, rfl⟩
      refine ⟨fun n w => n = sizeK n1 ∧ w = w8, ?_, ?_⟩
      · refine br_split (fun h => ⟨?_, rfl⟩) (fun h => ⟨?_, rfl⟩)
        · have h : n1 = 2 := by simpa using h
          rw [h]; rfl
        · have h : n1 ≠ 2 := by simpa using h
          rw [hna, sizeK, if_neg h]
      rintro u ns w8 ⟨rfl, rfl⟩
      refine call_pure' (tenonref05_Read_ok (size := sizeK n1) (gx _ _ h8.right.right.right) b1 hb hr) ?_
      have b2 := (readR_at (size := sizeK n1) b1).1
      have q2 := readR_num (bs := bs) (at_ := o1) (size := sizeK n1) hr
      have q2l := readR_lt (bs := bs) (o := o1) (s := sizeK n1) hr
      obtain ⟨⟨n2, o2, e2⟩, E2⟩ : ∃ t, readR bs o1 (sizeK n1) = t := ⟨_, rfl⟩
      simp only [E2] at hrr b2 q2 q2l ⊢
      refine ⟨_, _, _, rfl, br_split (fun he => ?_) (fun he => ?_)⟩
      · have he : e2 ≠ 0 := by simpa using he
        rw [if_pos he] at hrr
        exact bad he hrr h8
      have he : e2 = 0 := by simpa using he
      subst he
      rw [if_neg (by simp)] at hrr
      refine ⟨fun w => ¬ (n1 = 1 ∧ n2 > 1) ∧ w = w8, ?_, ?_⟩
      · refine br_split (fun h => br_dec (fun h' => ?_) (fun h' => ⟨fun q => h' q.2, rfl⟩)) (fun h => ⟨fun q => by simp [q.1] at h, rfl⟩)
        have h : n1 = 1 := by simpa using h
        rw [if_pos ⟨h, h'⟩] at hrr
        exact bad (by decide) hrr h8
      rintro u w8 ⟨hn, rfl⟩
      rw [if_neg hn] at hrr
      refine arith_raw <| st_ok (i := 1) h8 (show 1 < 4 by decide) fun w17 h17 => ?_
      rw [va_set1] at h17
      have h17 : Sat w₀ (blk k12 (va (.mk n1 (IntKind.wrap .i64 n2) ByteArray.empty none 0 [])) 24 * (blk k2 (va v0) 24 * (blk k1 (va v0) 24 * F))) w17 := h17
      refine br_split (fun k2' => ?_) (fun k2' => ?_)
      · have k2' : n1 = 2 := by simpa using k2'
        have hn2 : n2 < 4294967296 := by rw [k2'] at q2l; exact q2l
        rw [numK, if_pos k2'] at hrr
        refine br_dec (fun hg => arith_i64 (by omega) (by omega) <| arith_i64 (by omega) (by omega) <| st_ok (i := 1) h17 (show 1 < 4 by decide) fun w18 h18 => ?_) (fun hg => ?_)
        · rw [va_set1] at h18
          have e : IntKind.wrap .i32 n2 = n2 - 4294967296 := by
            simp only [IntKind.wrap, IntKind.signed, IntKind.bits]
            simp
            split <;> omega
          rw [e] at hrr
          exact good hrr (leaf_in rk (by omega) (by decide)) h18
        · have e : IntKind.wrap .i64 n2 = IntKind.wrap .i32 n2 := by
            simp only [IntKind.wrap, IntKind.signed, IntKind.bits]
            simp
            split <;> split <;> omega
          rw [e] at h17
          exact good hrr (leaf_in rk (by have := wrap_32_in n2; omega) (by decide)) h17
      · have k2' : n1 ≠ 2 := by simpa using k2'
        rw [numK, if_neg k2'] at hrr
        exact good hrr (leaf_in rk (wrap_in n2) (by decide)) h17
    have kb : ¬ (n1 = 1 ∨ n1 = 2 ∨ n1 = 3 ∨ n1 = 5) := fun h => by rw [hb7.2 h] at kb; cases kb
    rw [if_neg kb] at hrr
    refine br_split (fun k4 => ?_) (fun k4 => ?_)
    · have k4 : n1 = 4 := by simpa using k4
      rw [if_pos k4] at hrr
      have tl : (textR bs o1 256).1.length ≤ bs.length := by
        unfold textR
        dsimp only
        split
        · exact Nat.zero_le _
        · split
          · exact Nat.zero_le _
          · split
            · exact Nat.zero_le _
            · simp only [List.length_take, List.length_drop]; omega
      refine call_mono (tenonref05_ReadText_ok (most := 256) h8 (Gives.right (Gives.right (Gives.right gx))) hc b1 hb hr (by decide)) ?_
      rintro _ w22 ⟨q, d, rfl, h22⟩
      obtain ⟨⟨t2, o2, e2⟩, E2⟩ : ∃ t, textR bs o1 256 = t := ⟨_, rfl⟩
      simp only [E2] at hrr tl h22 ⊢
      refine ⟨_, _, _, _, _, rfl, br_split (fun he => ?_) (fun he => ?_)⟩
      · have he : e2 ≠ 0 := by simpa using he
        rw [if_pos he] at hrr
        exact bad he hrr (h22.perm (B := (own T_uint8 1 q t2.length d (by8 t2) * blk k12 (va (.mk n1 0 ByteArray.empty none 0 [])) 24) * (blk k2 (va v0) 24 * (blk k1 (va v0) 24 * F))) (by ac_rfl))
      have he : e2 = 0 := by simpa using he
      subst he
      rw [if_neg (by simp)] at hrr
      refine conv_bytes h22.left.rd <| st_ok (i := 2) h22.right (show 2 < 4 by decide) fun w25 h25 => ?_
      rw [va_set2] at h25
      refine good ?_ (leaf_in rk (by omega) (by rw [strB_size]; omega)) h25
      rw [← hrr, k4]
    have k4 : n1 ≠ 4 := by simpa using k4
    rw [if_neg k4] at hrr
    refine br_split (fun k6 => ?_) (fun k6 => ?_)
    · have k6 : n1 = 6 := by simpa using k6
      rw [if_pos k6] at hrr
      refine call_pure' (tenonref05_Read_ok (size := 4) (gx _ _ h8.right.right.right) b1 hb hr) ?_
      have b2 := (readR_at (size := 4) b1).1
      have q2 := readR_num (bs := bs) (at_ := o1) (size := 4) hr
      obtain ⟨⟨n, o2, e2⟩, E2⟩ : ∃ t, readR bs o1 4 = t := ⟨_, rfl⟩
      simp only [E2] at hrr b2 q2 ⊢
      refine ⟨_, _, _, rfl, br_split (fun he => ?_) (fun he => ?_)⟩
      · have he : e2 ≠ 0 := by simpa using he
        rw [if_pos he] at hrr
        exact bad he hrr h8
      have he : e2 = 0 := by simpa using he
      subst he
      rw [if_neg (by simp)] at hrr
      refine br_dec (fun hg => ?_) (fun hg => ?_)
      · rw [if_pos hg] at hrr
        exact bad (by decide) hrr h8
      rw [if_neg hg] at hrr
      let B := blk k2 (va v0) 24 * (blk k1 (va v0) 24 * F)
      refine ⟨fun o3 i w m => ∃ (xs : List VT) (pp : Option Addr) (cc : Nat) (G : HP) (oo : Nat), 0 ≤ i ∧ m = (n - i).toNat ∧ Sat w₀ (blk k12 (va (.mk n1 0 ByteArray.empty pp cc xs)) 24 * (own T_api_Var 4 pp xs.length cc (xs.flatMap vc) * (G * B))) w ∧ (∀ x ∈ xs, VGives G x ∧ VIn x) ∧ o3 = oo ∧ oo ≤ bs.length ∧ i ≤ n ∧ xs.length = i.toNat ∧ (rdL (rdV bs f) i.toNat o2).2.2 = 0 ∧ xs.map er = (rdL (rdV bs f) i.toNat o2).1.map er ∧ oo = (rdL (rdV bs f) i.toNat o2).2.1, ⟨_, [], none, 0, emp, o2, by omega, rfl, ?_, (fun x hx => by cases hx), rfl, b2, q2.1, rfl, rfl, rfl, rfl⟩, ?_⟩
      · exact ((h8.own_nil T_api_Var 4).with_emp).perm (by show emp * (own T_api_Var 4 none 0 0 [] * (blk k12 (va (.mk n1 0 ByteArray.empty none 0 [])) 24 * B)) = blk k12 (va (.mk n1 0 ByteArray.empty none 0 [])) 24 * (own T_api_Var 4 none 0 0 [] * (emp * B)); ac_rfl)
      rintro u _ i w30 m ⟨xs, pp, cc, G, oo, i0, rfl, h30, hxs, rfl, b3, hin, hxl, hL0, hxL, ho3⟩
      refine arith_i64 (by omega) (by omega) <| br_dec (fun hlt => arith_i64 (by omega) (by omega) ?_) (fun hge => ?_)
      · rw [show (9 - ((f + 1 : Nat) : Int) + 1 : Int) = 9 - (f : Int) by omega]
        refine call_mono (ih (by omega) oo _ w30 b3 (Gives.right (Gives.right (Gives.right (Gives.right (Gives.right gx))))) h30) ?_
        rintro _ w31 ⟨y, Gy, o4, rfl, hey, ho4, hGy, hIy, h31⟩
        have sn := rdL_snoc (rdV bs f) i.toNat o2 hL0
        rw [show (rdL (rdV bs f) i.toNat o2).2.1 = oo from ho3.symm] at sn
        have b4 : (rdV bs f oo).2.2 = 0 → (rdV bs f oo).2.1 ≤ bs.length := rdV_at f oo b3
        obtain ⟨⟨y0, oy, ey⟩, EY⟩ : ∃ t, rdV bs f oo = t := ⟨_, rfl⟩
        simp only [EY] at hey ho4 sn b4 ⊢
        refine ⟨_, _, _, rfl, new_ok h31 fun k72 w32 h32 => stA_ok h32 rfl rfl (va_one y) fun w33 h33 => ?_⟩
        have h33 : Sat w₀ (blk k72 (va y) 24 * (Gy * (blk k12 (va (.mk n1 0 ByteArray.empty pp cc xs)) 24 * (own T_api_Var 4 pp xs.length cc (xs.flatMap vc) * (G * B))))) w33 := h33
        refine br_split (fun he => ?_) (fun he => ?_)
        · have he : ey ≠ 0 := by simpa using he
          rw [if_pos he] at sn
          have el := rdL_fail (rdV bs f) (i.toNat + 1) n.toNat o2 (by omega) (by rw [sn]; exact he)
          rw [sn] at el
          rw [if_pos (by rw [el]; exact he), el] at hrr
          exact bad he hrr (h33.perm (B := (blk k72 (va y) 24 * (Gy * (blk k12 (va (.mk n1 0 ByteArray.empty pp cc xs)) 24 * (own T_api_Var 4 pp xs.length cc (xs.flatMap vc) * G)))) * B) (by ac_rfl))
        have he : ey = 0 := by simpa using he
        subst he
        obtain rfl := ho4 rfl
        rw [if_neg (by simp)] at sn
        have h33 := h33.perm (B := blk k72 (va y) 24 * (blk k12 (va (.mk n1 0 ByteArray.empty pp cc xs)) 24 * (own T_api_Var 4 pp xs.length cc (xs.flatMap vc) * (Gy * G * B)))) (by ac_rfl)
        have ef : xs.flatMap vc ++ (va y).toList = (xs ++ [y]).flatMap vc := by simp [va]
        have el : xs.length + 1 = (xs ++ [y]).length := by simp
        refine ldS_ok (cell_blk h33.right (i := 3) (show (va (.mk n1 0 ByteArray.empty pp cc xs))[3]? = some (.slice pp xs.length cc) from rfl)) <| ldV4 h33 ⟨rfl, new_ok h33 fun k79 w40 h40 => ?_⟩
        have rd40 := h40.left.rd_ob (sz := 4) (l := 1) (by rfl)
        refine app_ok varTy (h40.perm (B := own T_api_Var 4 pp xs.length cc (xs.flatMap vc) * (blk k12 (va (.mk n1 0 ByteArray.empty pp cc xs)) 24 * (Gy * G * B * (blk k72 (va y) 24 * blk k79 (va y) 24)))) (by ac_rfl)) rd40 (va_one y) (by simp only [maxLen]; omega) (by omega) fun p' c' w41 h41 => ?_
        rw [ef, el] at h41
        rw [el]
        refine st_ok (i := 3) (h41.perm (B := blk k12 (va (.mk n1 0 ByteArray.empty pp cc xs)) 24 * (own T_api_Var 4 p' (xs ++ [y]).length c' ((xs ++ [y]).flatMap vc) * (Gy * G * B * (blk k72 (va y) 24 * blk k79 (va y) 24)))) (by ac_rfl)) (show 3 < 4 by decide) fun w42 h42 => ?_
        rw [va_set3] at h42
        have h42 := (h42.perm (B := (blk k72 (va y) 24 * blk k79 (va y) 24) * (blk k12 (va (.mk n1 0 ByteArray.empty p' c' (xs ++ [y]))) 24 * (own T_api_Var 4 p' (xs ++ [y]).length c' ((xs ++ [y]).flatMap vc) * (Gy * G * B)))) (by show blk k12 _ 24 * _ = _; ac_rfl)).right
        have ei : (i + 1).toNat = i.toNat + 1 := by omega
        refine arith_i64 (by omega) (by omega) ⟨_, ?_, xs ++ [y], p', c', Gy * G, _, by omega, rfl, h42, fun x hx => ?_, rfl, b4 rfl, by omega, by rw [← el, hxl, ei], ?_, ?_, ?_⟩
        · omega
        · rcases List.mem_append.1 hx with hx | hx
          · exact ⟨VGives.right (hxs x hx).1, (hxs x hx).2⟩
          · obtain rfl := List.mem_singleton.1 hx
            exact ⟨VGives.left hGy, hIy⟩
        · rw [ei, sn]
        · rw [ei, sn, List.map_append, List.map_append, hxL]
          show _ ++ [er y] = _ ++ [er y0]
          rw [hey]
        · rw [ei, sn]
      · have hni : i = n := by omega
        subst hni
        rw [if_neg (by simp [hL0])] at hrr
        refine out_ok h30 (h30.perm (B := blk k1 (va v0) 24 * ((blk k12 (va (.mk n1 0 ByteArray.empty pp cc xs)) 24 * blk k2 (va v0) 24) * (own T_api_Var 4 pp xs.length cc (xs.flatMap vc) * G * F))) (by simp only [B]; ac_rfl)) rfl fun w' h' => ⟨.mk n1 0 ByteArray.empty pp cc xs, own T_api_Var 4 pp xs.length cc (xs.flatMap vc) * G, oo, ?_, ?_, ?_, VGives.mk (Gives.left Gives.own) (fun y hy => VGives.right (hxs y hy).1), ?_, h'.right.right⟩
        · rw [← hrr]
        · rw [← hrr, er_iff]
          exact ⟨k6, rfl, rfl, hxL⟩
        · rw [← hrr]
          exact fun _ => ho3
        · exact .mk rk (show (-9223372036854775808 : Int) ≤ 0 ∧ (0 : Int) ≤ 9223372036854775807 by decide) ⟨show ByteArray.empty.size ≤ 9223372036854775807 by decide, by show xs.length ≤ _; omega⟩ (fun y hy => (hxs y hy).2)
    · have k6 : n1 ≠ 6 := by simpa using k6
      rw [if_neg k6] at hrr
      exact bad (by decide) hrr h8
end
end Go.Proofs.Ytmecgkeplkchcaa
