
/- Contracts of layer 5 (wire): the reader, and the document's. No conditions. -/
import Derived.Test.YtjjnbcdcppnllaaW2
set_option linter.unusedVariables false
set_option linter.unusedSimpArgs false
set_option maxRecDepth 100000
namespace Go.Proofs.Ytjjnbcdcppnllaa
open Go.Sp Go.RowKit

/-- The number in some bytes, the lowest first. -/
def le : List Int → Int
  | [] => 0
  | b :: r => b + 256 * le r
theorem le_append (a : List Int) (b : Int) : le (a ++ [b]) = le a + 256 ^ a.length * b := by
  induction a with
  | nil => simp [le]
  | cons x a ih => simp only [List.cons_append, le, ih, List.length_cons, Int.pow_succ, Int.mul_add, Int.add_assoc]; congr 2; rw [← Int.mul_assoc, Int.mul_comm 256]
theorem le_range (a : List Int) (h : ∀ b ∈ a, 0 ≤ b ∧ b ≤ 255) : 0 ≤ le a ∧ le a < 256 ^ a.length := by
  induction a with
  | nil => simp [le]
  | cons x a ih =>
    have h1 := h x (.head _)
    have h2 := ih fun b hb => h b (.tail _ hb)
    simp only [le, List.length_cons, Int.pow_succ]
    omega
theorem le_lay (n : Int) : ∀ k, 0 ≤ n → n < 256 ^ k → le (lay n k) = n
  | 0, h0, h1 => by simp [lay, le] at *; omega
  | k + 1, h0, h1 => by
    rw [Int.pow_succ] at h1
    rw [lay, le, le_lay (n / 256) k (by omega) (by omega)]
    omega
theorem lay_range (n : Int) : ∀ k, ∀ b ∈ lay n k, 0 ≤ b ∧ b ≤ 255
  | 0 => by simp [lay]
  | k + 1 => by
    intro b hb
    simp only [lay, List.mem_cons] at hb
    rcases hb with rfl | hb
    · omega
    · exact lay_range _ k b hb

theorem or_u64 (x y : Nat) (hx : x < 2 ^ 64) (hy : y < 2 ^ 64) : bitw .or .u64 (x : Int) (y : Int) = ((x ||| y : Nat) : Int) := by
  have e : ∀ z : Nat, z < 2 ^ 64 → (BitVec.ofInt 64 (z : Int)).toNat = z := by
    intro z hz
    rw [BitVec.ofInt_natCast, BitVec.toNat_ofNat, Nat.mod_eq_of_lt hz]
  have hor : (x ||| y) < 2 ^ 64 := Nat.or_lt_two_pow hx hy
  show IntKind.u64.wrap ((BitVec.ofInt 64 (x : Int) ||| BitVec.ofInt 64 (y : Int)).toNat : Int) = _
  rw [BitVec.toNat_or, e x hx, e y hy, wrap_in]
  · simp [IntKind.min, IntKind.signed]
  · simp only [IntKind.max, IntKind.signed, IntKind.bits]
    have : ((x ||| y : Nat) : Int) < 2 ^ 64 := by exact_mod_cast hor
    simp only [Bool.false_eq_true, if_false]
    omega
theorem or_high {x b i : Nat} (hx : x < 2 ^ i) (hb : b * 2 ^ i < 2 ^ 64) (hx2 : x < 2 ^ 64) : bitw .or .u64 (x : Int) ((b * 2 ^ i : Nat) : Int) = ((x + b * 2 ^ i : Nat) : Int) := by
  rw [or_u64 x _ hx2 hb]
  congr 1
  have := Nat.shiftLeft_add_eq_or_of_lt hx b
  rw [Nat.shiftLeft_eq] at this
  rw [Nat.or_comm, ← this, Nat.add_comm]

/-- A function that leaves the world alone. -/
def PureCall' (f : FuncId) (args : Array Value) (w : World) (v : Value) : Prop := call Try.prog f args w fun u w' => u = v ∧ w' = w
theorem call_pure' {f : FuncId} {args : Array Value} {v : Value} {K : Value → World → Prop} {w : World} (h : PureCall' f args w v) (hk : K v w) : call Try.prog f args w K :=
  call_mono h fun u w' ⟨e, e'⟩ => by rw [e, e']; exact hk

/-! ### what is read -/
/-- The number at a place, the place behind it, the error. -/
def readR (bs : List Int) (at_ : Nat) (size : Int) : Int × Nat × Int :=
  if fitsB size = false then (0, at_, 1) else
  let k := at_ + (gapI at_ size).toNat
  if bs.length < k + size.toNat then (0, at_, 6) else
  if ((bs.drop at_).take (gapI at_ size).toNat).all (· == 0) = false then (0, at_, 5) else
  (le ((bs.drop k).take size.toNat), k + size.toNat, 0)

def Rdr (g : Nat) (bs : List Int) (at_ : Nat) : HP := ex fun p => ex fun l => ex fun c => blk g #[.slice p l c, .int .i64 at_] T_wire_Reader * own T_uint8 1 p l c (by8 bs)
theorem Rdr.open_ {w₀ w : World} {F : HP} {g at_ : Nat} {bs : List Int} (h : Sat w₀ (Rdr g bs at_ * F) w) : ∃ p c, Sat w₀ (blk g #[.slice p bs.length c, .int .i64 at_] T_wire_Reader * (own T_uint8 1 p bs.length c (by8 bs) * F)) w := by
  obtain ⟨p, h⟩ := Sat.ex h
  obtain ⟨l, h⟩ := Sat.ex h
  obtain ⟨c, h⟩ := Sat.ex h
  have := own_len8 h.left.right
  subst this
  exact ⟨p, c, h.perm (by ac_rfl)⟩
theorem Rdr.shut {w₀ w : World} {F : HP} {g at_ : Nat} {bs : List Int} {p : Option Addr} {l c : Nat} (h : Sat w₀ (blk g #[.slice p l c, .int .i64 at_] T_wire_Reader * (own T_uint8 1 p l c (by8 bs) * F)) w) : Sat w₀ (Rdr g bs at_ * F) w :=
  Sat.to_ex p (Sat.to_ex l (Sat.to_ex c (h.perm (by ac_rfl))))

theorem wire_NewReader_ok {w₀ w : World} {F : HP} {p : Option Addr} {l c : Nat} {bs : List Int} (h : Sat w₀ F w) (hx : Gives F 1 p l (by8 bs)) (hl : l ≤ 140737488355328) :
    call Try.prog fn_wire_NewReader #[.slice p l c] w fun v w' => ∃ g, v = .pointer (some ⟨g, 0, none⟩) ∧ Sat w₀ (Rdr g bs 0 * F) w' := by
  apply wire_NewReader_call
  unfold wire_NewReader
  refine call_mono (bytes_Clone_ok h hx hl) ?_
  rintro _ w1 ⟨q, d, rfl, h1⟩
  exact asS_ok <| new_ok h1 fun b w2 h2 => ⟨b, rfl, Rdr.shut h2⟩

theorem fitsB_pos {size : Int} (hf : fitsB size = true) : 1 ≤ size ∧ size ≤ 8 := by
  rcases fitsB_true hf with rfl | rfl | rfl | rfl <;> omega

theorem wire_Reader_Num_ok {w₀ w : World} {F : HP} {g at_ : Nat} {bs : List Int} {size : Int} (h : Sat w₀ (Rdr g bs at_ * F) w) (hat : at_ ≤ bs.length) (hb : bs.length ≤ 140737488355328) (hr : ∀ b ∈ bs, 0 ≤ b ∧ b ≤ 255) :
    call Try.prog fn_wire_Reader_Num #[.pointer (some ⟨g, 0, none⟩), .int .i64 size] w fun v w' =>
      v = .tuple #[.int .u64 (readR bs at_ size).1, .int .i64 (readR bs at_ size).2.2] ∧ (readR bs at_ size).2.1 ≤ bs.length ∧ Sat w₀ (Rdr g bs (readR bs at_ size).2.1 * F) w' := by
  apply wire_Reader_Num_call
  unfold wire_Reader_Num
  refine call_pure (wire_fits_ok size) <| asB_ok ?_
  cases hf : fitsB size with
  | false =>
    refine br_true rfl ?_
    have hR : readR bs at_ size = (0, at_, 1) := by simp [readR, hf]
    rw [hR]
    exact ⟨rfl, hat, h⟩
  | true =>
    have hs := fitsB_pos hf
    have hg := gapI_le (a := at_) (s := size) hs.1
    obtain ⟨m, hm⟩ : ∃ m : Nat, gapI at_ size = m := ⟨(gapI at_ size).toNat, by omega⟩
    obtain ⟨p, c, h⟩ := Rdr.open_ h
    have hc0 : ∀ {w F}, Sat w₀ (blk g #[.slice p bs.length c, .int .i64 at_] T_wire_Reader * F) w → w.cell? ⟨g, 0, none⟩ = some (.slice p bs.length c) := fun h => h.left.cell (i := 0) rfl
    have hc1 : ∀ {w F}, Sat w₀ (blk g #[.slice p bs.length c, .int .i64 at_] T_wire_Reader * F) w → w.cell? ⟨g, 1, none⟩ = some (.int .i64 at_) := fun h => h.left.cell (i := 1) rfl
    refine br_false rfl <| br_false rfl <| nn_ok <| ldI_ok (hc1 h) <| call_pure (wire_gap_ok _ _ (by omega) hs.1 hs.2) <| asI_ok ?_
    rw [hm]
    refine nn_ok <| ldS_ok (hc0 h.drew) <| nn_ok <| ldI_ok (hc1 h.drew) <| arith_i64 (by omega) (by omega) <| arith_i64 (by omega) (by omega) ?_
    have hR : readR bs at_ size = if bs.length < at_ + m + size.toNat then (0, at_, 6) else if ((bs.drop at_).take m).all (· == 0) = false then (0, at_, 5) else (le ((bs.drop (at_ + m)).take size.toNat), at_ + m + size.toNat, 0) := by
      simp only [readR, hf, hm, Int.toNat_natCast]
      rfl
    rw [hR]
    refine br_dec (fun hlt => ?_) (fun hge => ?_)
    · rw [if_pos (by omega)]
      exact ⟨rfl, hat, Rdr.shut h.drew⟩
    · rw [if_neg (by omega)]
      have h2 := h.drew.drew
      have hcap := h2.right.left.own_cap
      refine nn_ok <| ldS_ok (hc0 h2) <| nn_ok <| ldI_ok (hc1 h2) <| nn_ok <| ldI_ok (hc1 h2) <| arith_i64 (by omega) (by omega) <| slc_ok (by omega) (by omega) (by omega) ?_
      have e1 : ((at_ : Int) + (m : Int)).toNat = at_ + m := by omega
      rw [e1, Int.toNat_natCast]
      have hgv : ∀ {w}, Sat w₀ (blk g #[.slice p bs.length c, .int .i64 at_] T_wire_Reader * (own T_uint8 1 p bs.length c (by8 bs) * F)) w → Rd w 1 (if c = at_ then p else p.map (·.add (at_ * 1))) (at_ + m - at_) (by8 ((bs.drop at_).take (at_ + m - at_))) :=
        fun h => (Gives.sub8 (c := c) (F := own T_uint8 1 p bs.length c (by8 bs)) Gives.own (by omega) (by omega) hcap) _ _ h.right.left
      rw [show at_ + m - at_ = m by omega] at hgv ⊢
      refine ⟨fun i w' k => 0 ≤ i ∧ i ≤ m ∧ k = m - i.toNat ∧ (∀ (j : Nat), j < i.toNat → ((bs.drop at_).take m)[j]? = some 0) ∧ Sat w₀ (blk g #[.slice p bs.length c, .int .i64 at_] T_wire_Reader * (own T_uint8 1 p bs.length c (by8 bs) * F)) w', ⟨_, by omega, by omega, rfl, fun j hj => absurd hj (by simp), h2⟩, ?_⟩
      rintro u i w3 k ⟨hi0, hi1, rfl, hz, h3⟩
      refine br_dec (fun hi => idx8 (hgv h3) hi0 hi (Same.refl _) fun a x hxa hca => ldI_ok hca <| br_split (fun hne => ?_) (fun he => ?_)) (fun hi => ?_)
      · have hf0 : ((bs.drop at_).take m).all (· == 0) = false := by
          rw [List.all_eq_false]
          exact ⟨x, List.mem_iff_getElem?.2 ⟨_, hxa⟩, by simpa using hne⟩
        rw [hf0, if_pos rfl]
        exact ⟨rfl, hat, Rdr.shut h3⟩
      · refine arith_i64 (by omega) (by omega) ⟨_, by omega, by omega, by omega, rfl, fun j hj => ?_, h3⟩
        by_cases hji : j < i.toNat
        · exact hz j hji
        · have e : j = i.toNat := by omega
          rw [e, hxa]
          simpa using he
      · have hall : ((bs.drop at_).take m).all (· == 0) = true := by
          rw [List.all_eq_true]
          intro x hx
          obtain ⟨j, hj⟩ := List.mem_iff_getElem?.1 hx
          have hjl := (List.getElem?_eq_some_iff.1 hj).1
          rw [List.length_take] at hjl
          have := hz j (by omega)
          rw [hj] at this
          simpa using this
        rw [hall, if_neg (by simp)]
        obtain ⟨k8, hk8⟩ : ∃ k : Nat, size = k := ⟨size.toNat, by omega⟩
        subst hk8
        simp only [Int.toNat_natCast] at hge ⊢
        refine ⟨fun x i w' n => 0 ≤ i ∧ i ≤ k8 ∧ n = k8 - i.toNat ∧ x = le ((bs.drop (at_ + m)).take i.toNat) ∧ Sat w₀ (blk g #[.slice p bs.length c, .int .i64 at_] T_wire_Reader * (own T_uint8 1 p bs.length c (by8 bs) * F)) w', ⟨_, by omega, by omega, rfl, by simp [le], h3⟩, ?_⟩
        rintro u x i w4 n ⟨hi0, hi1, rfl, rfl, h4⟩
        have hrt : ∀ b ∈ (bs.drop (at_ + m)).take i.toNat, 0 ≤ b ∧ b ≤ 255 := fun b hb => hr b (List.mem_of_mem_drop (List.mem_of_mem_take hb))
        have hll : ((bs.drop (at_ + m)).take i.toNat).length = i.toNat := by rw [List.length_take, List.length_drop]; omega
        have hler := le_range _ hrt
        rw [hll] at hler
        refine br_dec (fun hi => ?_) (fun hi => ?_)
        · have h4 := h4.drew
          refine nn_ok <| ldS_ok (hc0 h4) <| nn_ok <| ldI_ok (hc1 h4) <| arith_i64 (by omega) (by omega) <| arith_i64 (by omega) (by omega) <| idx8 h4.right.left.rd (by omega) (by omega) (Same.refl _) fun a x hxa hca => ldI_ok hca ?_
          have hxr := hr x (List.mem_iff_getElem?.2 ⟨_, hxa⟩)
          refine arith_u64 (by omega) (by omega) <| arith_i64 (by omega) (by omega) ?_
          obtain ⟨xn, rfl⟩ : ∃ q : Nat, x = q := ⟨x.toNat, by omega⟩
          obtain ⟨i8, rfl⟩ : ∃ q : Nat, i = q := ⟨i.toNat, by omega⟩
          simp only [Int.toNat_natCast] at hler hll hxa ⊢
          obtain ⟨ln, hln⟩ : ∃ q : Nat, le ((bs.drop (at_ + m)).take i8) = q := ⟨(le ((bs.drop (at_ + m)).take i8)).toNat, by omega⟩
          have hp : (256 : Int) ^ i8 = ((2 ^ (8 * i8) : Nat) : Int) := by rw [Nat.pow_mul]; simp
          have hpl : 2 ^ (8 * i8) ≤ 2 ^ 56 := Nat.pow_le_pow_right (by omega) (by omega)
          have hln2 : ln < 2 ^ (8 * i8) := by rw [hp, hln] at hler; omega
          have hxb : xn * 2 ^ (8 * i8) < 2 ^ 64 := by
            have : xn * 2 ^ (8 * i8) ≤ 255 * 2 ^ 56 := Nat.mul_le_mul (by omega) hpl
            omega
          refine ⟨by omega, ?_⟩
          have e8 : min (8 * (i8 : Int)).toNat IntKind.u64.bits = 8 * i8 := by simp only [IntKind.bits]; omega
          rw [e8]
          have ew : IntKind.u64.wrap ((xn : Int) * 2 ^ (8 * i8)) = ((xn * 2 ^ (8 * i8) : Nat) : Int) := by
            have e : (xn : Int) * 2 ^ (8 * i8) = ((xn * 2 ^ (8 * i8) : Nat) : Int) := by rw [Int.natCast_mul, Int.natCast_pow]; rfl
            rw [e, wrap_in (Int.natCast_nonneg _) (by simp only [IntKind.max, IntKind.signed, IntKind.bits, Bool.false_eq_true, if_false]; omega)]
          rw [ew, hln]
          dsimp only
          rw [or_high hln2 hxb (by omega)]
          refine arith_i64 (by omega) (by omega) ⟨_, by omega, by omega, by omega, rfl, ?_, h4⟩
          have e2 : ((i8 : Int) + 1).toNat = i8 + 1 := by omega
          have e3 : ((at_ : Int) + (m : Int) + (i8 : Int)).toNat = at_ + m + i8 := by omega
          rw [e3] at hxa
          rw [e2, List.take_add_one, List.getElem?_drop, hxa]
          simp only [Option.toList_some]
          rw [le_append, hll, hln, hp, ← Int.natCast_mul, Nat.mul_comm, Int.natCast_add]
        · have : i = k8 := by omega
          subst this
          simp only [Int.toNat_natCast]
          refine nn_ok <| ldI_ok (hc1 h4) <| arith_i64 (by omega) (by omega) <| arith_i64 (by omega) (by omega) <| nn_ok <| st_ok (i := 1) h4 (by simp) fun w5 h5 => ?_
          have e : (at_ : Int) + ((m : Int) + (k8 : Int)) = ((at_ + m + k8 : Nat) : Int) := by omega
          refine ⟨trivial, by omega, Rdr.shut (p := p) (l := bs.length) (c := c) ?_⟩
          rw [← e]
          exact h5
end Go.Proofs.Ytjjnbcdcppnllaa
