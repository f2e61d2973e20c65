/- Values: reading, both ways; what is read. No conditions. -/
import Derived.Test.YtmecgkeplkchcaaVS
import Derived.Test.YtmecgkeplkchcaaV3
import Derived.Laws.BytesString
set_option linter.unusedVariables false
set_option linter.unusedSimpArgs false
set_option linter.unusedSectionVars false
set_option maxRecDepth 100000
namespace Go.Proofs.Ytmecgkeplkchcaa
open Go.Sp Go.RowKit

/-! ### strings of bytes -/
def strB (ns : List Int) : ByteArray := ns.foldl (fun r n => r.push (UInt8.ofNat n.toNat)) ByteArray.empty
theorem strB_data (ns : List Int) (acc : ByteArray) : (ns.foldl (fun r n => r.push (UInt8.ofNat n.toNat)) acc).data.toList = acc.data.toList ++ ns.map fun n => UInt8.ofNat n.toNat := by
  induction ns generalizing acc with
  | nil => simp
  | cons n ns ih =>
    rw [List.foldl_cons, ih]
    simp [ByteArray.push]
theorem strB_eq {a b : List Int} (ha : ∀ x ∈ a, 0 ≤ x ∧ x ≤ 255) (hb : ∀ x ∈ b, 0 ≤ x ∧ x ≤ 255) : ((strB a).toList == (strB b).toList) = decide (a = b) := by
  rw [ByteArray.toList_eq, ByteArray.toList_eq]
  unfold strB
  rw [strB_data, strB_data]
  have e : ByteArray.empty.data.toList = [] := rfl
  rw [e, List.nil_append, List.nil_append, Bool.eq_iff_iff]
  simp only [beq_iff_eq, decide_eq_true_eq]
  constructor
  · intro h
    induction a generalizing b with
    | nil => cases b with
      | nil => rfl
      | cons y b => simp at h
    | cons x a ih => cases b with
      | nil => simp at h
      | cons y b =>
        rw [List.map_cons, List.map_cons] at h
        obtain ⟨h1, h2⟩ := List.cons.inj h
        have hx := ha x (.head _)
        have hy := hb y (.head _)
        have h3 := congrArg UInt8.toNat h1
        simp at h3
        rw [ih (fun z hz => ha z (.tail _ hz)) (fun z hz => hb z (.tail _ hz)) h2, show x = y by omega]
  · rintro rfl
    rfl
theorem conv_bytes {w : World} {p : Option Addr} {l c : Nat} {ns : List Int} {K : ByteArray → World → Prop} (h : Rd w 1 p l (by8 ns)) (hk : K (strB ns) w) : runsT Try.prog (convert T_sl_uint8 T_string (.slice p l c)) w K := by
  refine ⟨strB ns, w, ?_, hk⟩
  rw [run_convert_bytes_string w T_sl_uint8 T_string T_uint8 p l c (by kernel_rfl) (by kernel_rfl) (by kernel_rfl)]
  have hl := h.len8
  cases p with
  | none =>
    have : l = 0 := by
      rcases Nat.eq_zero_or_pos l with h0 | h0
      · exact h0
      · obtain ⟨a, e⟩ := h.2.1 h0
        cases e
    subst this
    have : ns = [] := List.eq_nil_of_length_eq_zero hl
    subst this
    simp [Conv.bytesToString, strB]
  | some a =>
    refine run_bytesToString w a l c ns ?_
    have := Go.Sp.run_loadCellsFrom (P := Try.prog) (a := a) (w := w) l 0 #[] (by8 ns).toArray (by simp [by8_length, hl]) (fun j hj => by
      rw [Nat.zero_add]
      have e : (by8 ns)[j]? = some ((by8 ns)[j]'(by rw [by8_length]; omega)) := by simp [by8_length, hl, hj]
      rw [List.getElem?_toArray, e]
      exact h.get rfl e)
    rw [Array.empty_append] at this
    exact this

/-! ### what is read -/
def v0 : VT := .mk 0 0 ByteArray.empty none 0 []
def rdL (f : Nat → VT × Nat × Int) : Nat → Nat → List VT × Nat × Int
  | 0, o => ([], o, 0)
  | n + 1, o => if (f o).2.2 ≠ 0 then ([], o, (f o).2.2) else if (rdL f n (f o).2.1).2.2 ≠ 0 then ([], o, (rdL f n (f o).2.1).2.2) else ((f o).1 :: (rdL f n (f o).2.1).1, (rdL f n (f o).2.1).2.1, 0)
def sizeK (k : Int) : Int := if k = 1 then 1 else if k = 2 then 4 else 8
def numK (k n : Int) : Int := if k = 2 then IntKind.wrap .i32 n else IntKind.wrap .i64 n
def rdV (bs : List Int) : Nat → Nat → VT × Nat × Int
  | 0, o => (v0, o, 16)
  | f + 1, o =>
    let k := readR bs o 1
    if k.2.2 ≠ 0 then (v0, o, k.2.2)
    else if k.1 = 0 then (.mk 0 0 ByteArray.empty none 0 [], k.2.1, 0)
    else if k.1 = 1 ∨ k.1 = 2 ∨ k.1 = 3 ∨ k.1 = 5 then
      let n := readR bs k.2.1 (sizeK k.1)
      if n.2.2 ≠ 0 then (v0, o, n.2.2)
      else if k.1 = 1 ∧ n.1 > 1 then (v0, o, 5)
      else (.mk k.1 (numK k.1 n.1) ByteArray.empty none 0 [], n.2.1, 0)
    else if k.1 = 4 then
      let t := textR bs k.2.1 256
      if t.2.2 ≠ 0 then (v0, o, t.2.2) else (.mk 4 0 (strB t.1) none 0 [], t.2.1, 0)
    else if k.1 = 6 then
      let n := readR bs k.2.1 4
      if n.2.2 ≠ 0 then (v0, o, n.2.2)
      else if n.1 > 64 then (v0, o, 20)
      else
        let l := rdL (rdV bs f) n.1.toNat n.2.1
        if l.2.2 ≠ 0 then (v0, o, l.2.2) else (.mk 6 0 ByteArray.empty none 0 l.1, l.2.1, 0)
    else (v0, o, 5)
/-- The first of some, read one after the other. -/
theorem rdL_snoc (f : Nat → VT × Nat × Int) : ∀ (n o : Nat), (rdL f n o).2.2 = 0 → rdL f (n + 1) o = if (f (rdL f n o).2.1).2.2 ≠ 0 then ([], o, (f (rdL f n o).2.1).2.2) else ((rdL f n o).1 ++ [(f (rdL f n o).2.1).1], (f (rdL f n o).2.1).2.1, 0) := by
  intro n
  induction n with
  | zero =>
    intro o _
    rw [rdL, rdL]
    simp only [rdL]
    by_cases h : (f o).2.2 = 0 <;> simp [h]
  | succ n ih =>
    intro o h
    have h1 : (f o).2.2 = 0 := by
      rw [rdL] at h
      by_cases h1 : (f o).2.2 = 0
      · exact h1
      · rw [if_pos h1] at h; exact absurd h h1
    have h2 : (rdL f n (f o).2.1).2.2 = 0 := by
      rw [rdL, if_neg (by simp [h1])] at h
      by_cases h2 : (rdL f n (f o).2.1).2.2 = 0
      · exact h2
      · rw [if_pos h2] at h; exact absurd h h2
    have e : rdL f (n + 1) o = ((f o).1 :: (rdL f n (f o).2.1).1, (rdL f n (f o).2.1).2.1, 0) := by
      rw [rdL, if_neg (by simp [h1]), if_neg (by simp [h2])]
    rw [e, rdL, if_neg (by simp [h1]), ih _ h2]
    by_cases h3 : (f (rdL f n (f o).2.1).2.1).2.2 = 0 <;> simp [h3]
/-- If one fails, all fail alike. -/
theorem rdL_fail (f : Nat → VT × Nat × Int) : ∀ (n m o : Nat), n ≤ m → (rdL f n o).2.2 ≠ 0 → (rdL f m o).2.2 = (rdL f n o).2.2 := by
  intro n
  induction n with
  | zero => intro m o _ h; exact absurd rfl h
  | succ n ih =>
    intro m o hm h
    match m, hm with
    | m + 1, hm =>
      by_cases h1 : (f o).2.2 = 0
      · have step : ∀ k, rdL f (k + 1) o = if (rdL f k (f o).2.1).2.2 ≠ 0 then ([], o, (rdL f k (f o).2.1).2.2) else ((f o).1 :: (rdL f k (f o).2.1).1, (rdL f k (f o).2.1).2.1, 0) := fun k => by rw [rdL, if_neg (by simp [h1])]
        rw [step] at h
        rw [step, step]
        by_cases h2 : (rdL f n (f o).2.1).2.2 = 0
        · rw [if_neg (by simp [h2])] at h; exact absurd rfl h
        · have e := ih m (f o).2.1 (by omega) h2
          rw [if_pos (by rw [e]; exact h2), if_pos h2]
          exact e
      · have step : ∀ k, rdL f (k + 1) o = ([], o, (f o).2.2) := fun k => by rw [rdL, if_pos h1]
        rw [step, step]
end Go.Proofs.Ytmecgkeplkchcaa
