/- ObjrefOrder: the order, plain; the contracts of both orders; the walk. No conditions. -/
import Derived.Test.YtgkdlglpkfoeeaaO5
import Derived.Test.YtgkdlglpkfoeeaaSpB
import Derived.Laws.Externs
set_option linter.unusedVariables false
set_option linter.unusedSimpArgs false
set_option maxRecDepth 100000
namespace Go.Proofs.Ytgkdlglpkfoeeaa
open Go.Sp Go.RowKit

/-! ### lists by their first unlike number -/
def cmpI (a b : Int) : Int := if a < b then -1 else if a > b then 1 else 0
def cmpL : List Int → List Int → Int
  | a :: aa, b :: bs => if a < b then -1 else if a > b then 1 else cmpL aa bs
  | [], [] => 0
  | [], _ :: _ => -1
  | _ :: _, [] => 1
theorem cmpL_cons (a b : Int) (aa bs : List Int) : cmpL (a :: aa) (b :: bs) = if cmpI a b ≠ 0 then cmpI a b else cmpL aa bs := by
  rw [cmpL, cmpI]
  split
  · simp
  · split <;> simp
theorem cmpL_append {aa bs cs ds : List Int} (h : aa.length = bs.length) : cmpL (aa ++ cs) (bs ++ ds) = if cmpL aa bs ≠ 0 then cmpL aa bs else cmpL cs ds := by
  induction aa generalizing bs with
  | nil => cases bs with
    | nil => simp [cmpL]
    | cons b bs => simp at h
  | cons a aa ih => cases bs with
    | nil => simp at h
    | cons b bs =>
      rw [List.cons_append, List.cons_append, cmpL_cons, cmpL_cons, ih (by simpa using h)]
      split <;> simp_all
theorem cmpL_self (aa : List Int) : cmpL aa aa = 0 := by
  induction aa with
  | nil => rfl
  | cons a aa ih => rw [cmpL_cons, ih]; simp [cmpI]
theorem cmpL_zero {aa bs : List Int} (h : aa.length = bs.length) : cmpL aa bs = 0 ↔ aa = bs := by
  induction aa generalizing bs with
  | nil => cases bs with
    | nil => simp [cmpL]
    | cons b bs => simp at h
  | cons a aa ih => cases bs with
    | nil => simp at h
    | cons b bs =>
      have := ih (bs := bs) (by simpa using h)
      rw [cmpL]
      constructor
      · intro e
        split at e
        · omega
        · split at e
          · omega
          · rw [show a = b by omega, this.1 e]
      · intro e
        obtain ⟨rfl, rfl⟩ := List.cons.inj e
        simp [cmpL_self]
theorem cmpL_range (aa bs : List Int) : cmpL aa bs = -1 ∨ cmpL aa bs = 0 ∨ cmpL aa bs = 1 := by
  induction aa generalizing bs with
  | nil => cases bs <;> simp [cmpL]
  | cons a aa ih => cases bs with
    | nil => simp [cmpL]
    | cons b bs =>
      rw [cmpL]
      split
      · simp
      · split
        · simp
        · exact ih bs
theorem cmpL_neg (aa bs : List Int) : cmpL bs aa = - cmpL aa bs := by
  induction aa generalizing bs with
  | nil => cases bs <;> simp [cmpL]
  | cons a aa ih => cases bs with
    | nil => simp [cmpL]
    | cons b bs =>
      rw [cmpL, cmpL, ih]
      rcases Int.lt_trichotomy a b with h | h | h
      · rw [if_neg (by omega), if_pos h, if_pos h]; rfl
      · rw [if_neg (by omega), if_neg (by omega), if_neg (by omega), if_neg (by omega)]
      · rw [if_pos h, if_neg (by omega), if_pos h]
theorem cmpL_trans (aa bs cs : List Int) (h1 : cmpL aa bs = -1) (h2 : cmpL bs cs = -1) : cmpL aa cs = -1 := by
  induction aa generalizing bs cs with
  | nil => cases bs with
    | nil => simp [cmpL] at h1
    | cons b bs => cases cs with
      | nil => simp [cmpL] at h2
      | cons c cs => rfl
  | cons a aa ih => cases bs with
    | nil => simp [cmpL] at h1
    | cons b bs => cases cs with
      | nil => simp [cmpL] at h2
      | cons c cs =>
        rw [cmpL] at h1 h2 ⊢
        split at h1
        · split at h2
          · rw [if_pos (by omega)]
          · split at h2
            · omega
            · rw [if_pos (by omega)]
        · split at h1
          · omega
          · split at h2
            · rw [if_pos (by omega)]
            · split at h2
              · omega
              · rw [if_neg (by omega), if_neg (by omega)]
                exact ih bs cs h1 h2
theorem cmpL_at {aa bs : List Int} {i : Nat} {x y : Int} (ht : aa.take i = bs.take i) (hx : aa[i]? = some x) (hy : bs[i]? = some y) (hne : x ≠ y) : cmpL aa bs = if x < y then -1 else 1 := by
  induction aa generalizing bs i with
  | nil => simp at hx
  | cons a aa ih => cases bs with
    | nil => simp at hy
    | cons b bs =>
      cases i with
      | zero =>
        simp at hx hy
        subst hx hy
        rw [cmpL]
        split
        · rfl
        · rw [if_pos (by omega)]
      | succ i =>
        rw [List.take_succ_cons, List.take_succ_cons] at ht
        obtain ⟨rfl, ht2⟩ := List.cons.inj ht
        rw [cmpL, if_neg (by omega), if_neg (by omega)]
        exact ih ht2 (by simpa using hx) (by simpa using hy)

/-! ### the model's compare -/
def bsA (bs : List Int) (acc : ByteArray) : ByteArray := bs.foldl (fun a b => a.push b.toNat.toUInt8) acc
theorem bsA_data (bs : List Int) (acc : ByteArray) : (bsA bs acc).data.toList = acc.data.toList ++ bs.map fun b => b.toNat.toUInt8 := by
  induction bs generalizing acc with
  | nil => simp [bsA]
  | cons b bs ih =>
    show (bsA bs (acc.push b.toNat.toUInt8)).data.toList = _
    rw [ih]
    simp [ByteArray.push]
theorem bsA_size (bs : List Int) : (bsA bs .empty).size = bs.length := by
  have := congrArg List.length (bsA_data bs .empty)
  have e : ByteArray.empty.data.toList = [] := rfl
  simp only [e, List.nil_append, List.length_map, Array.length_toList] at this
  exact this
theorem bsA_get {bs : List Int} {i : Nat} {x : Int} (h : bs[i]? = some x) : (bsA bs .empty)[i]! = x.toNat.toUInt8 := by
  have hd := bsA_data bs .empty
  have e : ByteArray.empty.data.toList = [] := rfl
  rw [e, List.nil_append] at hd
  have hlt : i < (bsA bs .empty).size := by rw [bsA_size]; exact (List.getElem?_eq_some_iff.1 h).1
  rw [getElem!_pos _ i hlt]
  have h2 : (bsA bs .empty).data.toList[i]? = some (x.toNat.toUInt8) := by rw [hd, List.getElem?_map, h]; rfl
  rw [Array.getElem?_toList] at h2
  obtain ⟨_, h3⟩ := Array.getElem?_eq_some_iff.1 h2
  exact h3
theorem run_loadBytes {P : Program} {w : World} : ∀ (bs : List Int) (a : Addr) (acc : ByteArray), (∀ j, j < bs.length → w.cell? (a.add j) = (by8 bs)[j]?) → (Extern.Bytes.loadBytes a bs.length acc).run P w = .ok (bsA bs acc) w := by
  intro bs
  induction bs with
  | nil => intro a acc _; rfl
  | cons b bs ih =>
    intro a acc h
    have h0 := h 0 (by simp)
    rw [add_zero] at h0
    have h0 : w.cell? a = some (.int .u8 b) := by rw [h0]; rfl
    have hn := ih (a.add 1) (acc.push b.toNat.toUInt8) (fun j hj => by
      rw [add_add, Nat.add_comm 1 j, h (j + 1) (by simpa using hj)]
      rfl)
    show ((Extern.Bytes.loadBytes a (bs.length + 1) acc).run P w) = _
    simp only [Extern.Bytes.loadBytes, load, Sem.run_bind]
    simp only [Sem.run, h0, Result.andThen_ok]
    exact hn
theorem u8_inj {x y : Int} (hx : 0 ≤ x ∧ x ≤ 255) (hy : 0 ≤ y ∧ y ≤ 255) : (x.toNat.toUInt8 = y.toNat.toUInt8 ↔ x = y) ∧ (x.toNat.toUInt8 < y.toNat.toUInt8 ↔ x < y) := by
  have e : ∀ z : Int, 0 ≤ z ∧ z ≤ 255 → z.toNat.toUInt8.toNat = z.toNat := fun z hz => by
    simp
    omega
  constructor
  · rw [← UInt8.toNat_inj, e x hx, e y hy]
    omega
  · rw [UInt8.lt_iff_toNat_lt, e x hx, e y hy]
    omega
theorem ext_cmp {aa bs : List Int} (hl : aa.length = bs.length) (ha : ∀ b ∈ aa, 0 ≤ b ∧ b ≤ 255) (hb : ∀ b ∈ bs, 0 ≤ b ∧ b ≤ 255) : Extern.BytealgCompare.cmp (bsA aa .empty) (bsA bs .empty) = cmpL aa bs := by
  unfold Extern.BytealgCompare.cmp
  rw [bsA_size, bsA_size, ← hl, Nat.min_self]
  have get : ∀ i, i < aa.length → ∃ x y, aa[i]? = some x ∧ bs[i]? = some y ∧ (bsA aa .empty)[i]! = x.toNat.toUInt8 ∧ (bsA bs .empty)[i]! = y.toNat.toUInt8 ∧ (0 ≤ x ∧ x ≤ 255) ∧ (0 ≤ y ∧ y ≤ 255) := by
    intro i hi
    have h1 : aa[i]? = some aa[i] := by simp [hi]
    have h2 : bs[i]? = some (bs[i]'(by omega)) := by simp [show i < bs.length by omega]
    exact ⟨_, _, h1, h2, bsA_get h1, bsA_get h2, ha _ (List.getElem_mem _), hb _ (List.getElem_mem _)⟩
  cases hf : (List.range aa.length).find? fun i => (bsA aa .empty)[i]! != (bsA bs .empty)[i]! with
  | some i =>
    dsimp only
    have hm := List.mem_of_find?_eq_some hf
    have hp := List.find?_some hf
    have hi : i < aa.length := by simpa using hm
    obtain ⟨x, y, h1, h2, g1, g2, rx, ry⟩ := get i hi
    have hne : x ≠ y := by
      rintro rfl
      rw [g1, g2] at hp
      simp at hp
    have ht : aa.take i = bs.take i := by
      apply List.ext_getElem?
      intro j
      rw [List.getElem?_take, List.getElem?_take]
      split
      · rename_i hj
        obtain ⟨u, v, k1, k2, q1, q2, ru, rv⟩ := get j (by omega)
        have hnot : ¬ ((bsA aa .empty)[j]! != (bsA bs .empty)[j]!) = true := by
          rw [List.find?_eq_some_iff_append] at hf
          obtain ⟨_, u1, u2, he, hno⟩ := hf
          have hjm : j ∈ u1 := by
            have hlen : u1.length = i := by
              have h3 : (List.range aa.length)[u1.length]? = some i := by rw [he]; simp
              rw [List.getElem?_range (by
                have := (List.getElem?_eq_some_iff.1 h3).1
                simpa using this)] at h3
              simpa using h3
            have h4 : u1[j]? = some j := by
              have h5 : (List.range aa.length)[j]? = some j := List.getElem?_range (by omega)
              rw [he, List.getElem?_append_left (by omega)] at h5
              exact h5
            exact List.mem_of_getElem? h4
          have := hno j hjm
          simpa using this
        rw [q1, q2] at hnot
        have : u = v := (u8_inj ru rv).1.1 (by simpa using hnot)
        rw [k1, k2, this]
      · rfl
    rw [cmpL_at ht h1 h2 hne, g1, g2]
    by_cases hlt : x < y
    · rw [if_pos hlt, if_pos ((u8_inj rx ry).2.2 hlt)]
    · rw [if_neg hlt, if_neg (fun h => hlt ((u8_inj rx ry).2.1 h))]
  | none =>
    dsimp only
    have e : aa = bs := by
      apply List.ext_getElem?
      intro j
      by_cases hj : j < aa.length
      · obtain ⟨u, v, k1, k2, q1, q2, ru, rv⟩ := get j hj
        rw [List.find?_eq_none] at hf
        have := hf j (by simpa using hj)
        rw [q1, q2] at this
        rw [k1, k2, (u8_inj ru rv).1.1 (by simpa using this)]
      · rw [List.getElem?_eq_none (by omega), List.getElem?_eq_none (by omega)]
    subst e
    rw [cmpL_self]
    simp
theorem bytes_Compare_ok {w : World} {p q : Option Addr} {l c d : Nat} {aa bs : List Int} (hp : Rd w 1 p l (by8 aa)) (hq : Rd w 1 q l (by8 bs)) (h0 : 0 < l) (ha : ∀ b ∈ aa, 0 ≤ b ∧ b ≤ 255) (hb : ∀ b ∈ bs, 0 ≤ b ∧ b ≤ 255) :
    call Try.prog fn_bytes_Compare #[.slice p l c, .slice q l d] w fun v w' => v = .int .i64 (cmpL aa bs) ∧ w' = w := by
  apply bytes_Compare_call
  unfold bytes_Compare
  have la := hp.len8
  have lb := hq.len8
  obtain ⟨a, rfl⟩ := hp.2.1 h0
  obtain ⟨b, rfl⟩ := hq.2.1 h0
  have ca : ∀ (x : List Int) (g : Addr), Rd w 1 (some g) l (by8 x) → ∀ j, j < x.length → w.cell? (g.add j) = (by8 x)[j]? := fun x g h j hj => by
    have e : (by8 x)[j]? = some ((by8 x)[j]'(by rw [by8_length]; exact hj)) := by simp [by8_length, hj]
    rw [e]
    exact h.get rfl e
  refine ⟨.int .i64 (cmpL aa bs), w, ?_, asI_ok ⟨rfl, rfl⟩⟩
  have hfn : Try.prog.funcs[41]? = some Try.f41 := Try.func41
  have h1 : Extern.find Try.f41 = some Extern.BytealgCompare.compare := by kernel_rfl
  rw [run_callFunc_extern hfn (by kernel_rfl) (by kernel_rfl) (by kernel_rfl) h1]
  have ra := run_loadBytes (P := Try.prog) aa a .empty (ca aa a hp)
  have rb := run_loadBytes (P := Try.prog) bs b .empty (ca bs b hq)
  rw [la] at ra
  rw [lb] at rb
  have e : (Extern.BytealgCompare.compare #[.slice (some a) l c, .slice (some b) l d]).run Try.prog w = .ok (goInt (Extern.BytealgCompare.cmp (bsA aa .empty) (bsA bs .empty))) w := by
    change Sem.run Try.prog (do
      let x ← Extern.Bytes.loadBytes a l .empty
      let y ← Extern.Bytes.loadBytes b l .empty
      pure (goInt (Extern.BytealgCompare.cmp x y))) w = _
    simp only [Sem.run_bind, ra, rb, Result.andThen_ok, Sem.run_pure]
  rw [e, Result.andThen_ok]
  rw [ext_cmp (by omega) ha hb]
  rfl
end Go.Proofs.Ytgkdlglpkfoeeaa
