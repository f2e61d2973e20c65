
/- Contracts of layer 5 (wire): small functions. No conditions. -/
import Derived.Test.YtjjnbcdcppnllaaG0
import Derived.Test.YtjjnbcdcppnllaaG1
import Derived.Test.YtjjnbcdcppnllaaSp8
set_option linter.unusedVariables false
set_option linter.unusedSimpArgs false
set_option maxRecDepth 100000
namespace Go.Proofs.Ytjjnbcdcppnllaa
open Go.Sp Go.RowKit

theorem bytesTy : SliceTy Try.prog T_sl_uint8 T_uint8 (.int .u8 0) 1 1 := ⟨by kernel_rfl, by kernel_rfl, rfl, by decide⟩

def fitsB (n : Int) : Bool := n == 1 || n == 2 || n == 4 || n == 8
theorem fitsB_true {n : Int} (h : fitsB n = true) : n = 1 ∨ n = 2 ∨ n = 4 ∨ n = 8 := by
  simp [fitsB] at h
  omega
theorem wire_fits_ok (n : Int) : PureCall Try.prog fn_wire_fits #[.int .i64 n] (.bool (fitsB n)) := by
  intro w
  apply wire_fits_call
  unfold wire_fits
  refine br_split (fun h => ?_) (fun h => br_split (fun h2 => ?_) (fun h2 => br_split (fun h3 => ?_) (fun h3 => ?_))) <;> exact ⟨by simp [fitsB, *], rfl⟩
def gapI (a s : Int) : Int := (s - a % s) % s
theorem gapI_le {a s : Int} (hs : 1 ≤ s) : 0 ≤ gapI a s ∧ gapI a s < s := ⟨Int.emod_nonneg _ (by omega), Int.emod_lt_of_pos _ (by omega)⟩
theorem wire_gap_ok (a s : Int) (ha : 0 ≤ a) (hs : 1 ≤ s) (hs2 : s ≤ 8) : PureCall Try.prog fn_wire_gap #[.int .i64 a, .int .i64 s] (.int .i64 (gapI a s)) := by
  intro w
  apply wire_gap_call
  unfold wire_gap
  have h1 := Int.emod_nonneg a (show s ≠ 0 by omega)
  have h2 := Int.emod_lt_of_pos a (show 0 < s by omega)
  refine rem_ok ha (by omega) (arith_i64 (by omega) (by omega) (rem_ok (by omega) (by omega) ⟨rfl, rfl⟩))

/-- A copy that is its holder's own. -/
theorem bytes_Clone_ok {w₀ w : World} {F : HP} {p : Option Addr} {l c : Nat} {xs : List Int} (h : Sat w₀ F w) (hx : Gives F 1 p l (by8 xs)) (hl : l ≤ 140737488355328) :
    call Try.prog fn_bytes_Clone #[.slice p l c] w fun v w' => ∃ q d, v = .slice q l d ∧ Sat w₀ (own T_uint8 1 q l d (by8 xs) * F) w' := by
  apply bytes_Clone_call
  unfold bytes_Clone
  cases p with
  | none =>
    have hl0 : l = 0 := Nat.eq_zero_of_not_pos fun hp => by obtain ⟨a, e⟩ := (hx _ _ h).2.1 hp; cases e
    subst hl0
    have : xs = [] := List.eq_nil_of_length_eq_zero (hx _ _ h).len8
    subst this
    exact ⟨none, 0, rfl, h.own_nil _ _⟩
  | some a =>
    refine br_false rfl (new_ok h fun b w1 h1 => ?_)
    have h2 : Sat w₀ (own T_uint8 1 (some ⟨b, 0, none⟩) 0 0 [] * F) w1 := h1.own_full (n := 0) (by simp) (by simp [maxLen])
    refine app_ok bytesTy h2 (hx _ _ h2.right) (by8_one _) (by simp only [maxLen]; omega) (by omega) fun p' c' w' h3 => ?_
    exact ⟨p', c', by simp, by simpa using h3⟩

/-! ### the writer -/
def Wr (g : Nat) (bs : List Int) : HP := ex fun p => ex fun l => ex fun c => blk g #[.slice p l c] T_wire_Writer * own T_uint8 1 p l c (by8 bs)
theorem Wr.open_ {w₀ w : World} {F : HP} {g : Nat} {bs : List Int} (h : Sat w₀ (Wr g bs * F) w) : ∃ p c, Sat w₀ (blk g #[.slice p bs.length c] T_wire_Writer * (own T_uint8 1 p bs.length c (by8 bs) * F)) w := by
  obtain ⟨p, h⟩ := Sat.ex h
  obtain ⟨l, h⟩ := Sat.ex h
  obtain ⟨c, h⟩ := Sat.ex h
  have := own_len8 h.left.right
  subst this
  exact ⟨p, c, h.perm (by ac_rfl)⟩
theorem Wr.shut {w₀ w : World} {F : HP} {g : Nat} {bs : List Int} {p : Option Addr} {l c : Nat} (h : Sat w₀ (blk g #[.slice p l c] T_wire_Writer * (own T_uint8 1 p l c (by8 bs) * F)) w) : Sat w₀ (Wr g bs * F) w :=
  Sat.to_ex p (Sat.to_ex l (Sat.to_ex c (h.perm (by ac_rfl))))

theorem wire_NewWriter_ok {w₀ w : World} {F : HP} (h : Sat w₀ F w) :
    call Try.prog fn_wire_NewWriter #[] w fun v w' => ∃ g, v = .pointer (some ⟨g, 0, none⟩) ∧ Sat w₀ (Wr g [] * F) w' := by
  apply wire_NewWriter_call
  unfold wire_NewWriter
  refine new_ok h fun b w1 h1 => ?_
  have h2 := h1.own_nil T_uint8 1
  exact ⟨b, rfl, Wr.shut (p := none) (l := 0) (c := 0) (bs := []) (h2.perm (by simp only [by8, List.map_nil]; ac_rfl))⟩

/-- A number's form. -/
def lay (n : Int) : Nat → List Int
  | 0 => []
  | k + 1 => n % 256 :: lay (n / 256) k
def form (at_ : Nat) (n size : Int) : List Int := List.replicate (gapI at_ size).toNat 0 ++ lay n size.toNat
theorem lay_snoc (n : Int) : ∀ k, lay n (k + 1) = lay n k ++ [n / 256 ^ k % 256]
  | 0 => by simp [lay]
  | k + 1 => by
    rw [lay, lay_snoc (n / 256) k, lay]
    simp only [List.cons_append, List.cons.injEq, true_and, List.append_cancel_left_eq, and_true]
    rw [Int.ediv_ediv_of_nonneg (by omega), Int.pow_succ, Int.mul_comm]
theorem lay_length (n : Int) : ∀ k, (lay n k).length = k
  | 0 => rfl
  | k + 1 => by simp [lay, lay_length]

theorem wire_Num_ok {w₀ w : World} {F : HP} {g : Nat} {bs : List Int} {n size : Int} (h : Sat w₀ (Wr g bs * F) w) (hf : fitsB size = true) (h0 : 0 ≤ n) (hr : n < 256 ^ size.toNat) (hb : bs.length ≤ 1099511627776) :
    call Try.prog fn_wire_Writer_Num #[.pointer (some ⟨g, 0, none⟩), .int .u64 n, .int .i64 size] w fun v w' => v = .int .i64 0 ∧ Sat w₀ (Wr g (bs ++ form bs.length n size) * F) w' := by
  have hs := fitsB_true hf
  have hg := gapI_le (a := bs.length) (s := size) (by omega)
  apply wire_Writer_Num_call
  unfold wire_Writer_Num
  refine ⟨fun w' => w' = w, ?_, ?_⟩
  · refine br_false rfl (call_pure (wire_fits_ok size) ⟨true, by rw [hf], br_false rfl (br_dec (fun hlt => ?_) (fun hge => rfl))⟩)
    refine arith_i64 (by omega) (by omega) (shr_ok (by omega) (by simp [IntKind.bits]; omega) (br_false ?_ rfl))
    have e : (2 : Int) ^ (8 * size).toNat = 256 ^ size.toNat := by
      rcases hs with rfl | rfl | rfl | rfl <;> decide
    rw [e]
    have : n / 256 ^ size.toNat = 0 := Int.ediv_eq_zero_of_lt h0 hr
    simp [this]
  · rintro u w1 rfl
    obtain ⟨p, c, h⟩ := Wr.open_ h
    have h := h.drew
    have hc := h.left.cell (i := 0) rfl
    refine ldS_ok hc (ldS_ok hc (call_pure (wire_gap_ok _ _ (by omega) (by omega) (by omega)) ⟨_, rfl, hc, ?_⟩))
    obtain ⟨m, hm⟩ : ∃ m : Nat, gapI bs.length size = m := ⟨(gapI bs.length size).toNat, by omega⟩
    rw [hm]
    have h' := h.perm (sep_left_comm _ _ _)
    refine appZ_ok bytesTy (tn := T_int) (by kernel_rfl) (by simp [Value.cells, Value.oneCell']) h' (by omega) (by omega) fun p1 c1 w1 h1 => ?_
    rw [zeros_by8, ← by8_append] at h1
    refine nn_ok (st_ok (i := 0) (h1.perm (sep_left_comm _ _ _)) (by simp) fun w2 h2 => ?_)
    refine ⟨fun i w' k => 0 ≤ i ∧ i ≤ size ∧ k = (size - i).toNat ∧ Sat w₀ (Wr g (bs ++ List.replicate m 0 ++ lay n i.toNat) * F) w', ⟨size.toNat, by omega, by omega, by omega, ?_⟩, ?_⟩
    · refine Wr.shut (p := p1) (l := bs.length + m) (c := c1) (h2.perm ?_)
      simp [lay]
    · rintro u i w3 k ⟨hi0, hi1, rfl, h3⟩
      refine br_dec (fun hlt => ?_) (fun hge => ?_)
      · obtain ⟨p3, c3, h3⟩ := Wr.open_ h3
        have h3 := h3.drew
        refine ldS_ok (h3.left.cell (i := 0) rfl) ?_
        refine arith_i64 (by omega) (by omega) (shr_ok (by omega) (by simp [IntKind.bits]; omega) (arith_u8 ?_))
        have e : (2 : Int) ^ (8 * i).toNat = 256 ^ i.toNat := by
          have : i = 0 ∨ i = 1 ∨ i = 2 ∨ i = 3 ∨ i = 4 ∨ i = 5 ∨ i = 6 ∨ i = 7 := by omega
          rcases this with rfl | rfl | rfl | rfl | rfl | rfl | rfl | rfl <;> decide
        rw [e]
        refine new_ok h3 fun b w4 h4 => ?_
        have hlen : (bs ++ List.replicate m 0 ++ lay n i.toNat).length = bs.length + m + i.toNat := by simp [lay_length]; omega
        refine app1_ok bytesTy (h4.perm (by rw [sep_left_comm (blk g _ _)])) rfl (by simp only [maxLen]; omega) (by omega) fun p5 c5 w5 h5 => ?_
        refine nn_ok (st_ok (i := 0) (h5.perm (sep_left_comm _ _ _)) (by simp) fun w6 h6 => ?_)
        refine arith_i64 (by omega) (by omega) ⟨(size - (i + 1)).toNat, by omega, by omega, by omega, rfl, ?_⟩
        refine Wr.shut (p := p5) (l := (bs ++ List.replicate m 0 ++ lay n i.toNat).length + 1) (c := c5) (h6.perm ?_)
        have e2 : (i + 1).toNat = i.toNat + 1 := by omega
        rw [e2, lay_snoc, ← List.append_assoc, by8_append _ [_]]
        rfl
      · have : i = size := by omega
        subst this
        refine ⟨rfl, ?_⟩
        rw [form, hm]
        simpa [List.append_assoc] using h3

/-- Has it room? -/
def roomB (n size : Int) : Bool := decide (n / 256 ^ size.toNat = 0)
theorem roomB_true {n size : Int} (h0 : 0 ≤ n) (h : roomB n size = true) : n < 256 ^ size.toNat := by
  have h1 : n / 256 ^ size.toNat = 0 := by simpa [roomB] using h
  have hp : (0 : Int) < 256 ^ size.toNat := Int.pow_pos (by omega)
  have h2 := Int.emod_lt_of_pos n hp
  have h3 := Int.mul_ediv_add_emod n (256 ^ size.toNat)
  rw [h1] at h3
  omega
theorem roomB_eight {n : Int} (h0 : 0 ≤ n) (h1 : n ≤ 18446744073709551615) : roomB n 8 = true := by
  have : n / 256 ^ (8 : Int).toNat = 0 := Int.ediv_eq_zero_of_lt h0 (by show n < 256 ^ 8; omega)
  exact decide_eq_true this
theorem wire_Num_no {w₀ w : World} {F : HP} {g : Nat} {n size : Int} (h : Sat w₀ F w) (hf : (fitsB size && roomB n size) = false) (h0 : 0 ≤ n) (h1 : n ≤ 18446744073709551615) :
    call Try.prog fn_wire_Writer_Num #[.pointer (some ⟨g, 0, none⟩), .int .u64 n, .int .i64 size] w fun v w' => v = .int .i64 1 ∧ Sat w₀ F w' := by
  apply wire_Writer_Num_call
  unfold wire_Writer_Num
  refine ⟨fun w' => False, ?_, fun u w' h => h.elim⟩
  refine br_false rfl (call_pure (wire_fits_ok size) (asB_ok ?_))
  cases hfit : fitsB size with
  | false => exact br_true rfl ⟨rfl, h⟩
  | true =>
    have hs := fitsB_true hfit
    rw [hfit] at hf
    have hr : roomB n size = false := by simpa using hf
    have hne : size ≠ 8 := by rintro rfl; rw [roomB_eight h0 h1] at hr; cases hr
    refine br_false rfl (br_true (by simp; omega) (arith_i64 (by omega) (by omega) (shr_ok (by omega) (by simp [IntKind.bits]; omega) (br_true ?_ ⟨rfl, h⟩))))
    have e : (2 : Int) ^ (8 * size).toNat = 256 ^ size.toNat := by
      rcases hs with rfl | rfl | rfl | rfl <;> decide
    rw [e]
    simpa [roomB] using hr

theorem form_length (a : Nat) (n size : Int) (h : 1 ≤ size) : (form a n size).length = (gapI a size).toNat + size.toNat := by simp [form, lay_length]

theorem wire_Bytes_ok {w₀ w : World} {F : HP} {g : Nat} {bs : List Int} (h : Sat w₀ (Wr g bs * F) w) (hb : bs.length ≤ 140737488355328) :
    call Try.prog fn_wire_Writer_Bytes #[.pointer (some ⟨g, 0, none⟩)] w fun v w' => ∃ q d, v = .slice q bs.length d ∧ Sat w₀ (own T_uint8 1 q bs.length d (by8 bs) * (Wr g bs * F)) w' := by
  apply wire_Writer_Bytes_call
  unfold wire_Writer_Bytes
  obtain ⟨p, c, h1⟩ := Wr.open_ h
  refine br_false rfl (nn_ok (ldS_ok (h1.left.cell (i := 0) rfl) (call_mono (bytes_Clone_ok h1 (Gives.right (Gives.left Gives.own)) hb) ?_)))
  rintro _ w1 ⟨q, d, rfl, h2⟩
  refine asS_ok ⟨q, d, rfl, ?_⟩
  refine (Wr.shut (p := p) (l := bs.length) (c := c) (F := own T_uint8 1 q bs.length d (by8 bs) * F) (bs := bs) (h2.perm (by ac_rfl))).perm (by ac_rfl)

/-! ### the document's -/
theorem gap_more {a k : Nat} {size : Int} (hf : fitsB size = true) (hk : (k : Int) ≤ gapI a size) : (((a + k : Nat) : Int) % size ≠ 0) ↔ (k : Int) < gapI a size := by
  rcases fitsB_true hf with rfl | rfl | rfl | rfl <;> simp only [gapI] at * <;> omega

end Go.Proofs.Ytjjnbcdcppnllaa
