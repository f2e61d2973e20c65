
/- Packets: bytes that are alike; reading of a form. No conditions. -/
import Derived.Test.YtjjnbcdcppnllaaP5
import Derived.Laws.BytesString
set_option linter.unusedVariables false
set_option linter.unusedSimpArgs false
set_option linter.unusedSectionVars false
set_option maxRecDepth 100000
namespace Go.Proofs.Ytjjnbcdcppnllaa
open Go.Sp Go.RowKit

/-! ### strings of bytes -/
def strB (ns : List Int) : ByteArray := ns.foldl (fun r n => r.push (UInt8.ofNat n.toNat)) ByteArray.empty
theorem strB_data (ns : List Int) (acc : ByteArray) : (ns.foldl (fun r n => r.push (UInt8.ofNat n.toNat)) acc).data.toList = acc.data.toList ++ ns.map fun n => UInt8.ofNat n.toNat := by
  induction ns generalizing acc with
  | nil => simp
  | cons n ns ih =>
    rw [List.foldl_cons, ih]
    simp [ByteArray.push]
theorem strB_eq {a b : List Int} (ha : ∀ x ∈ a, 0 ≤ x ∧ x ≤ 255) (hb : ∀ x ∈ b, 0 ≤ x ∧ x ≤ 255) : ((strB a).toList == (strB b).toList) = decide (a = b) := by
  rw [ByteArray.toList_eq, ByteArray.toList_eq]
  unfold strB
  rw [strB_data, strB_data]
  have e : ByteArray.empty.data.toList = [] := rfl
  rw [e, List.nil_append, List.nil_append, Bool.eq_iff_iff]
  simp only [beq_iff_eq, decide_eq_true_eq]
  constructor
  · intro h
    induction a generalizing b with
    | nil => cases b with
      | nil => rfl
      | cons y b => simp at h
    | cons x a ih => cases b with
      | nil => simp at h
      | cons y b =>
        rw [List.map_cons, List.map_cons] at h
        obtain ⟨h1, h2⟩ := List.cons.inj h
        have hx := ha x (.head _)
        have hy := hb y (.head _)
        have h3 := congrArg UInt8.toNat h1
        simp at h3
        rw [ih (fun z hz => ha z (.tail _ hz)) (fun z hz => hb z (.tail _ hz)) h2, show x = y by omega]
  · rintro rfl
    rfl
theorem conv_bytes {w : World} {p : Option Addr} {l c : Nat} {ns : List Int} {K : ByteArray → World → Prop} (h : Rd w 1 p l (by8 ns)) (hk : K (strB ns) w) : runsT Try.prog (convert T_sl_uint8 T_string (.slice p l c)) w K := by
  refine ⟨strB ns, w, ?_, hk⟩
  rw [run_convert_bytes_string w T_sl_uint8 T_string T_uint8 p l c (by kernel_rfl) (by kernel_rfl) (by kernel_rfl)]
  have hl := h.len8
  cases p with
  | none =>
    have : l = 0 := by
      rcases Nat.eq_zero_or_pos l with h0 | h0
      · exact h0
      · obtain ⟨a, e⟩ := h.2.1 h0
        cases e
    subst this
    have : ns = [] := List.eq_nil_of_length_eq_zero hl
    subst this
    simp [Conv.bytesToString, strB]
  | some a =>
    refine run_bytesToString w a l c ns ?_
    have := Go.Sp.run_loadCellsFrom (P := Try.prog) (a := a) (w := w) l 0 #[] (by8 ns).toArray (by simp [by8_length, hl]) (fun j hj => by
      rw [Nat.zero_add]
      have e : (by8 ns)[j]? = some ((by8 ns)[j]'(by rw [by8_length]; omega)) := by simp [by8_length, hl, hj]
      rw [List.getElem?_toArray, e]
      exact h.get rfl e)
    rw [Array.empty_append] at this
    exact this
theorem bytes_Equal_ok {w : World} {p q : Option Addr} {l m c d : Nat} {xs ys : List Int} (hx : Rd w 1 p l (by8 xs)) (hy : Rd w 1 q m (by8 ys)) (ha : ∀ x ∈ xs, 0 ≤ x ∧ x ≤ 255) (hb : ∀ x ∈ ys, 0 ≤ x ∧ x ≤ 255) :
    call Try.prog fn_bytes_Equal #[.slice p l c, .slice q m d] w fun v w' => v = .bool (decide (xs = ys)) ∧ w' = w := by
  apply bytes_Equal_call
  unfold bytes_Equal
  exact conv_bytes hx <| conv_bytes hy ⟨by rw [strB_eq ha hb], rfl⟩

/-! ### reading what was laid -/
theorem readR_lt {bs : List Int} {o : Nat} {s : Int} (hr : ∀ b ∈ bs, 0 ≤ b ∧ b ≤ 255) : (readR bs o s).1 < 256 ^ s.toNat := by
  unfold readR
  have h0 : (0 : Int) < 256 ^ s.toNat := Int.pow_pos (by decide)
  split
  · exact h0
  · dsimp only
    split
    · exact h0
    · split
      · exact h0
      · dsimp only
        have hm : ∀ b ∈ (bs.drop (o + (gapI o s).toNat)).take s.toNat, 0 ≤ b ∧ b ≤ 255 := fun b hb => hr b (List.mem_of_mem_drop (List.mem_of_mem_take hb))
        have h1 := (le_range _ hm).2
        refine Int.lt_of_lt_of_le h1 (pow256_le ?_)
        rw [List.length_take]
        omega
theorem encN_pre (fs : List (Int × Int)) (bs : List Int) : ∃ t, encN fs bs = bs ++ t := by
  induction fs generalizing bs with
  | nil => exact ⟨[], by simp [encN]⟩
  | cons f fs ih =>
    obtain ⟨t, ht⟩ := ih (bs ++ form bs.length f.1 f.2)
    refine ⟨form bs.length f.1 f.2 ++ t, ?_⟩
    show encN fs (bs ++ form bs.length f.1 f.2) = _
    rw [ht, List.append_assoc]
def Pre (fs : List (Int × Int)) (bs : List Int) : Prop := ∃ t, bs = encN fs [] ++ t
theorem Pre.less {fs gs : List (Int × Int)} {bs : List Int} (h : Pre (fs ++ gs) bs) : Pre fs bs := by
  obtain ⟨t, rfl⟩ := h
  rw [encN_append]
  obtain ⟨t', e⟩ := encN_pre gs (encN fs [])
  exact ⟨t' ++ t, by rw [e, List.append_assoc]⟩
theorem Pre.read {fs : List (Int × Int)} {n s : Int} {bs : List Int} {k : Nat} (h : Pre (fs ++ [(n, s)]) bs) (hfs : Fs (fs ++ [(n, s)]) k) : readR bs (encN fs []).length s = (n, (encN (fs ++ [(n, s)]) []).length, 0) := by
  obtain ⟨t, rfl⟩ := h
  have hr := hfs.rng (n, s) (by simp)
  rw [encN_snoc, List.append_assoc, readR_form (hfs.fit (n, s) (by simp)) hr.1 hr.2, List.length_append]
theorem pre7 (x : PK) : Pre (A7 x) (encP x) := ⟨_, rfl⟩
theorem pre6 (x : PK) : Pre (A6 x) (encP x) := by
  have h := pre7 x
  unfold A7 at h
  split at h
  · exact h.less
  · exact h
theorem pre5 (x : PK) : Pre (A5 x) (encP x) := by
  have h := pre6 x
  unfold A6 at h
  split at h
  · exact h.less
  · exact h
theorem pre4 (x : PK) : Pre (A4 x) (encP x) := by
  have h := pre5 x
  unfold A5 at h
  split at h
  · exact h.less
  · exact h
theorem pre3 (x : PK) : Pre (A3 x) (encP x) := by
  have h := pre4 x
  unfold A4 at h
  split at h
  · exact h.less
  · exact h
theorem pre2 (x : PK) : Pre (A2 x) (encP x) := by
  have h := pre3 x
  unfold A3 at h
  split at h
  · exact h.less
  · exact h
theorem pre1 (x : PK) : Pre (A1 x) (encP x) := by
  have h := pre2 x
  unfold A2 at h
  split at h
  · exact h.less
  · exact h
/-- The bytes are a packet's form. -/
structure Form (bs : List Int) (y : PK) : Prop where
  pin : PIn y
  right : RightP y
  enc : encP y = bs
theorem i64_un {n : Int} (h : i64 n) : IntKind.wrap .i64 (un n) = n := by
  unfold i64 at h
  simp only [IntKind.wrap, IntKind.signed, IntKind.bits, un]
  simp
  split <;> omega
theorem encP_by {x : PK} (hx : PIn x) (hr : RightP x) : ∀ b ∈ encP x, 0 ≤ b ∧ b ≤ 255 := by
  have key : ∀ (fs : List (Int × Int)) (bs : List Int), (∀ b ∈ bs, 0 ≤ b ∧ b ≤ 255) → ∀ b ∈ encN fs bs, 0 ≤ b ∧ b ≤ 255 := by
    intro fs
    induction fs with
    | nil => intro bs h; exact h
    | cons f fs ih =>
      intro bs h
      refine ih (bs ++ form bs.length f.1 f.2) fun b hb => ?_
      rcases List.mem_append.1 hb with hb | hb
      · exact h b hb
      · rcases List.mem_append.1 hb with hb | hb
        · rw [List.mem_replicate] at hb
          rw [hb.2]; decide
        · exact lay_range _ _ b hb
  intro b hb
  rcases List.mem_append.1 hb with hb | hb
  · exact key _ [] (by simp) b hb
  · obtain ⟨r, _, hb⟩ := List.mem_flatMap.1 hb
    exact encL_by r.2 b hb
end Go.Proofs.Ytjjnbcdcppnllaa
