
/- What a packet is; which one is right; which ones are one. No conditions. -/
import Derived.Test.YtjjnbcdcppnllaaO7
set_option linter.unusedVariables false
set_option linter.unusedSimpArgs false
set_option maxRecDepth 100000
namespace Go.Proofs.Ytjjnbcdcppnllaa
open Go.Sp Go.RowKit

structure PK where
  kd : Int
  fr : Int
  to : Int
  sq : Int
  cl : Int
  ip : List Int
  md : Int
  n : Int
  cd : Int
  rs : List OR
deriving DecidableEq
def i64 (n : Int) : Prop := -9223372036854775808 ≤ n ∧ n ≤ 9223372036854775807
def u64 (n : Int) : Prop := 0 ≤ n ∧ n ≤ 18446744073709551615
structure PIn (x : PK) : Prop where
  kd : i64 x.kd
  fr : i64 x.fr
  to : i64 x.to
  sq : u64 x.sq
  cl : u64 x.cl
  ip : x.ip.length = 16
  by_ : ∀ b ∈ x.ip, 0 ≤ b ∧ b ≤ 255
  md : i64 x.md
  n : i64 x.n
  cd : i64 x.cd
def z16 : List Int := List.replicate 16 0
def pk0 : PK := ⟨0, 0, 0, 0, 0, z16, 0, 0, 0, []⟩
def tlL (x : PK) (v : Value) : List Value := [.int .i64 x.md, .int .i64 x.n, .int .i64 x.cd, v]
def pkL (x : PK) (v : Value) : List Value := [.int .i64 x.kd, .int .i64 x.fr, .int .i64 x.to, .int .u64 x.sq, .int .u64 x.cl] ++ (by8 x.ip ++ tlL x v)
def pkF (x : PK) (v : Value) : Array Value := (pkL x v).toArray
theorem pk_len {x : PK} {v : Value} (h : x.ip.length = 16) : (pkL x v).length = 25 := by simp [pkL, tlL, by8_length, h]
theorem pk_size {x : PK} {v : Value} (h : x.ip.length = 16) : (pkF x v).size = 25 := by simp [pkF, pk_len h]
theorem pk_ip {x : PK} {v : Value} (h : x.ip.length = 16) {j : Nat} (hj : j < 16) : (pkF x v)[5 + j]? = (by8 x.ip)[j]? := by
  rw [pkF, List.getElem?_toArray, pkL, List.getElem?_append_right (by simp)]
  rw [List.getElem?_append_left (by simp [by8_length, h]; omega)]
  simp
theorem pk_tl {x : PK} {v : Value} (h : x.ip.length = 16) (j : Nat) : (pkF x v)[21 + j]? = (tlL x v)[j]? := by
  rw [pkF, List.getElem?_toArray, pkL, List.getElem?_append_right (by simp; omega), List.getElem?_append_right (by simp [by8_length, h]; omega)]
  congr 1
  simp [by8_length, h]
  omega
theorem pk_one {x : PK} {p : Option Addr} {l c : Nat} : ∀ u ∈ (pkF x (.slice p l c)).toList, u.oneCell' = true := by
  intro u hu
  have hu : u ∈ pkL x (.slice p l c) := by simpa [pkF] using hu
  simp only [pkL, tlL, List.mem_append, List.mem_cons, List.not_mem_nil, or_false] at hu
  rcases hu with (rfl | rfl | rfl | rfl | rfl) | hu | rfl | rfl | rfl | rfl <;> first | rfl | exact by8_one _ _ hu
theorem pk_iff (x y : PK) : x = y ↔ x.kd = y.kd ∧ x.fr = y.fr ∧ x.to = y.to ∧ x.sq = y.sq ∧ x.cl = y.cl ∧ x.ip = y.ip ∧ x.md = y.md ∧ x.n = y.n ∧ x.cd = y.cd ∧ x.rs = y.rs := by
  cases x; cases y; simp

section
variable {w₀ w : World} {F : HP} {k : Nat} {t : TypeId} {x : PK} {v : Value}
theorem ldPk {K : Array Value → Prop} (h : Sat w₀ (blk k (pkF x v) t * F) w) (hx : x.ip.length = 16) (hk : K (pkF x v)) : ldA (⟨k, 0, none⟩ : Addr) 25 w K :=
  ldA_blk0 h (pk_size hx) hk
theorem ldIp {K : Array Value → Prop} (h : Sat w₀ (blk k (pkF x v) t * F) w) (hx : x.ip.length = 16) (hk : K (by8 x.ip).toArray) : ldA ((⟨k, 0, none⟩ : Addr).add 5) 16 w K := by
  refine ldA_ok (by simp [by8_length, hx]) (fun i hi => ?_) hk
  rw [add_mk, add_mk, Nat.zero_add]
  have e : (pkF x v)[5 + i]? = some ((pkF x v)[5 + i]'(by rw [pk_size hx]; omega)) := by simp [pk_size hx]
  rw [h.left.cell e, ← e, pk_ip hx hi]
  simp
theorem tlC (h : Sat w₀ (blk k (pkF x v) t * F) w) (hx : x.ip.length = 16) (j : Nat) {u : Value} (hu : (tlL x v)[j]? = some u) : w.cell? ((⟨k, 0, none⟩ : Addr).add (21 + j)) = some u := by
  refine cell_blk h ?_
  rw [pk_tl hx, hu]
theorem still_guid {a b : List Int} (la : a.length = 16) (lb : b.length = 16) {K : Bool → Prop} (hk : K (decide (a = b))) : still Try.prog (Op.equal T_api_Guid (.agg (by8 a).toArray) (.agg (by8 b).toArray)) K := by
  refine ⟨_, fun w => ?_, hk⟩
  obtain ⟨d, hd⟩ : ∃ d, Op.maxDepth = d + 1 + 1 := ⟨9998, by kernel_rfl⟩
  unfold Op.equal
  rw [hd]
  exact eq_guid la lb d w
end
theorem rd_refs {w : World} {p : Option Addr} {l : Nat} {xs : List OR} {i : Nat} {x : OR} {a : Addr} {K : Array Value → Prop} (h : Rd w 36 p l (xs.flatMap orC)) (hp : p = some a) (hx : xs[i]? = some x) (hk : K (orF x.1)) : ldA (a.add (i * 36)) 36 w K := by
  refine ldA_ok (orF_size x.2) (fun j hj => ?_) hk
  have e : (orC x)[j]? = some ((orC x)[j]'(by rw [orC_len]; exact hj)) := by simp [orC_len, hj]
  rw [add_add, h.2.2 a hp _ _ ((flatGet orC_len hx hj).trans e), ← orC_arr, List.getElem?_toArray, e]
theorem refs_len {w : World} {p : Option Addr} {l : Nat} {xs : List OR} (h : Rd w 36 p l (xs.flatMap orC)) : xs.length = l := by have := h.1; rw [flatLen orC_len] at this; omega
theorem slices_Equal_ok {w : World} {p q : Option Addr} {l c m d : Nat} {xs ys : List OR} (hx : Rd w 36 p l (xs.flatMap orC)) (hy : Rd w 36 q m (ys.flatMap orC)) (hl : l ≤ 4611686018427387904) :
    Reads Try.prog fn_slices_Equal #[.slice p l c, .slice q m d] w (.bool (decide (xs = ys))) := by
  apply slices_Equal_call
  unfold slices_Equal
  have el := refs_len hx
  have em := refs_len hy
  refine br_split (fun hne => ?_) (fun heq => ?_)
  · refine ⟨?_, Same.refl w⟩
    rw [decide_eq_false]
    intro e
    subst e
    simp [← el, em] at hne
  · have hlm' : (l : Int) = m := by simpa using heq
    have hlm : l = m := by omega
    refine ⟨fun n w' k => 0 ≤ n ∧ n ≤ l ∧ k = l - n.toNat ∧ xs.take n.toNat = ys.take n.toNat ∧ Same w w', ⟨_, by omega, by omega, rfl, by simp, Same.refl w⟩, ?_⟩
    rintro u n w1 k ⟨h0, h1, rfl, he, hw⟩
    refine br_dec (fun hlt => ?_) (fun hge => ?_)
    · have hi : n.toNat < xs.length := by omega
      have hj : n.toNat < ys.length := by omega
      have hxi : xs[n.toNat]? = some xs[n.toNat] := by simp [hi]
      have hyi : ys[n.toNat]? = some ys[n.toNat] := by simp [hj]
      refine idx_ok (hx.same hw.drew) h0 (by omega) fun a ha => rd_refs (hx.same hw.drew) ha hxi <| idx_ok (hy.same hw.drew) h0 (by omega) fun b hb => rd_refs (hy.same hw.drew) hb hyi <| or_eq <| br_split (fun hne => ?_) (fun heq => ?_)
      · refine ⟨?_, hw.drew⟩
        rw [decide_eq_false]
        intro e
        subst e
        simp at hne
      · have heq : xs[n.toNat] = ys[n.toNat] := by simpa using heq
        refine arith_i64 (by omega) (by omega) ⟨_, by omega, by omega, by omega, rfl, ?_, hw.drew⟩
        rw [show (n + 1).toNat = n.toNat + 1 by omega, List.take_add_one, List.take_add_one, he, hxi, hyi, heq]
    · refine ⟨?_, hw⟩
      rw [List.take_of_length_le (by omega), List.take_of_length_le (by omega)] at he
      rw [he]
      simp
section
variable {w₀ w : World} {F : HP} {x y : PK} {p q : Option Addr} {l c m d : Nat}
theorem packet_Same_ok (h : Sat w₀ F w) (hx : x.ip.length = 16) (hy : y.ip.length = 16) (gx : Gives F 36 p l (x.rs.flatMap orC)) (gy : Gives F 36 q m (y.rs.flatMap orC)) (hl : l ≤ 4611686018427387904) :
    call Try.prog fn_packet_Same #[.agg (pkF x (.slice p l c)), .agg (pkF y (.slice q m d))] w fun v w' => v = .bool (decide (x = y)) ∧ Sat w₀ F w' := by
  apply packet_Same_call
  unfold packet_Same
  refine new_ok h fun k1 w1 h1 => new_ok h1 fun k2 w2 h2 => ?_
  have h2 : Sat w₀ (blk k2 (pkF y (.slice q m d)) T_api_Packet * (blk k1 (pkF x (.slice p l c)) T_api_Packet * F)) w2 := h2
  have c2 : ∀ {v : Value}, ∀ i, (pkF y (.slice q m d))[i]? = some v → w2.cell? ((⟨k2, 0, none⟩ : Addr).add i) = some v := fun i e => cell_blk h2 e
  have c1 : ∀ {v : Value}, ∀ i, (pkF x (.slice p l c))[i]? = some v → w2.cell? ((⟨k1, 0, none⟩ : Addr).add i) = some v := fun i e => cell_blk h2.right e
  have t2 : ∀ j, ∀ {v : Value}, (tlL y (.slice q m d))[j]? = some v → w2.cell? ((⟨k2, 0, none⟩ : Addr).add (21 + j)) = some v := fun j _ e => tlC h2 hy j e
  have t1 : ∀ j, ∀ {v : Value}, (tlL x (.slice p l c))[j]? = some v → w2.cell? ((⟨k1, 0, none⟩ : Addr).add (21 + j)) = some v := fun j _ e => tlC h2.right hx j e
  have hF := h2.right.right
  have no : ∀ {X : Prop}, (x = y → X) → ¬ X → Value.bool false = .bool (decide (x = y)) ∧ Sat w₀ F w2 := fun hX hn => ⟨by rw [decide_eq_false fun e => hn (hX e)], hF⟩
  refine ldI_ok (c1 0 rfl) <| ldI_ok (c2 0 rfl) <| br_split (fun e0 => ?_) (fun hn => no (X := x.kd = y.kd) (fun e => by rw [e]) (by simpa using hn))
  refine ldI_ok (c1 1 rfl) <| ldI_ok (c2 1 rfl) <| br_split (fun e1 => ?_) (fun hn => no (X := x.fr = y.fr) (fun e => by rw [e]) (by simpa using hn))
  refine ldI_ok (c1 2 rfl) <| ldI_ok (c2 2 rfl) <| br_split (fun e2 => ?_) (fun hn => no (X := x.to = y.to) (fun e => by rw [e]) (by simpa using hn))
  refine ldI_ok (c1 3 rfl) <| ldI_ok (c2 3 rfl) <| br_split (fun e3 => ?_) (fun hn => no (X := x.sq = y.sq) (fun e => by rw [e]) (by simpa using hn))
  refine ldI_ok (c1 4 rfl) <| ldI_ok (c2 4 rfl) <| br_split (fun e4 => ?_) (fun hn => no (X := x.cl = y.cl) (fun e => by rw [e]) (by simpa using hn))
  refine ldIp h2.right hx <| ldIp h2 hy <| still_guid hx hy <| br_split (fun e5 => ?_) (fun hn => no (X := x.ip = y.ip) (fun e => by rw [e]) (by simpa using hn))
  refine ldI_ok (t1 0 rfl) <| ldI_ok (t2 0 rfl) <| br_split (fun e6 => ?_) (fun hn => no (X := x.md = y.md) (fun e => by rw [e]) (by simpa using hn))
  refine ldI_ok (t1 1 rfl) <| ldI_ok (t2 1 rfl) <| br_split (fun e7 => ?_) (fun hn => no (X := x.n = y.n) (fun e => by rw [e]) (by simpa using hn))
  refine ldI_ok (t1 2 rfl) <| ldI_ok (t2 2 rfl) <| br_split (fun e8 => ?_) (fun hn => no (X := x.cd = y.cd) (fun e => by rw [e]) (by simpa using hn))
  refine ldS_ok (t1 3 rfl) <| ldS_ok (t2 3 rfl) <| call_reads (slices_Equal_ok (gx _ _ hF) (gy _ _ hF) hl) fun w3 hw => asB_ok ⟨?_, hF.same hw⟩
  simp at e0 e1 e2 e3 e4 e5 e6 e7 e8
  congr 1
  rw [Bool.eq_iff_iff]
  simp [pk_iff, e0, e1, e2, e3, e4, e5, e6, e7, e8]
theorem ref_Same_ok (h : Sat w₀ F w) (hx : x.ip.length = 16) (hy : y.ip.length = 16) (gx : Gives F 36 p l (x.rs.flatMap orC)) (gy : Gives F 36 q m (y.rs.flatMap orC)) (hl : l ≤ 4611686018427387904) :
    call Try.prog fn_tenonref08_Same #[.agg (pkF x (.slice p l c)), .agg (pkF y (.slice q m d))] w fun v w' => v = .bool (decide (x = y)) ∧ Sat w₀ F w' := by
  apply tenonref08_Same_call
  unfold tenonref08_Same
  refine new_ok h fun k1 w1 h1 => new_ok h1 fun k2 w2 h2 => ?_
  have h2 : Sat w₀ (blk k2 (pkF y (.slice q m d)) T_api_Packet * (blk k1 (pkF x (.slice p l c)) T_api_Packet * F)) w2 := h2
  have t2 : ∀ {w}, Sat w₀ (blk k2 (pkF y (.slice q m d)) T_api_Packet * (blk k1 (pkF x (.slice p l c)) T_api_Packet * F)) w → ∀ j, ∀ {v : Value}, (tlL y (.slice q m d))[j]? = some v → w.cell? ((⟨k2, 0, none⟩ : Addr).add (21 + j)) = some v := fun h j _ e => tlC h hy j e
  have t1 : ∀ {w}, Sat w₀ (blk k2 (pkF y (.slice q m d)) T_api_Packet * (blk k1 (pkF x (.slice p l c)) T_api_Packet * F)) w → ∀ j, ∀ {v : Value}, (tlL x (.slice p l c))[j]? = some v → w.cell? ((⟨k1, 0, none⟩ : Addr).add (21 + j)) = some v := fun h j _ e => tlC h.right hx j e
  have el := refs_len (gx _ _ h)
  have em := refs_len (gy _ _ h)
  refine ldS_ok (t1 h2 3 rfl) <| ldS_ok (t2 h2 3 rfl) <| br_split (fun hne => ?_) (fun heq => ?_)
  · refine ⟨?_, h2.right.right⟩
    rw [decide_eq_false]
    intro e
    subst e
    simp [← el, em] at hne
  · have hlm' : (l : Int) = m := by simpa using heq
    have hlm : l = m := by omega
    refine ⟨fun n w' k => 0 ≤ n ∧ n ≤ l ∧ k = l - n.toNat ∧ x.rs.take n.toNat = y.rs.take n.toNat ∧ Sat w₀ (blk k2 (pkF y (.slice q m d)) T_api_Packet * (blk k1 (pkF x (.slice p l c)) T_api_Packet * F)) w', ⟨_, by omega, by omega, rfl, by simp, h2⟩, ?_⟩
    rintro u n w3 k ⟨h0, h1, rfl, he, h3⟩
    refine ldS_ok (t1 h3 3 rfl) <| br_dec (fun hlt => ?_) (fun hge => ?_)
    · have hi : n.toNat < x.rs.length := by omega
      have hj : n.toNat < y.rs.length := by omega
      have hxi : x.rs[n.toNat]? = some x.rs[n.toNat] := by simp [hi]
      have hyi : y.rs[n.toNat]? = some y.rs[n.toNat] := by simp [hj]
      have h4 := h3.drew
      have rx := gx _ _ h4.right.right
      have ry := gy _ _ h4.right.right
      refine ldS_ok (t1 h4 3 rfl) <| idx_ok rx h0 (by omega) fun a ha => rd_refs rx ha hxi <| ldS_ok (t2 h4 3 rfl) <| idx_ok ry h0 (by omega) fun b hb => rd_refs ry hb hyi <| or_eq <| br_split (fun hne => ?_) (fun heq => ?_)
      · refine ⟨?_, h4.right.right⟩
        rw [decide_eq_false]
        intro e
        subst e
        simp at hne
      · have heq : x.rs[n.toNat] = y.rs[n.toNat] := by simpa using heq
        refine arith_i64 (by omega) (by omega) ⟨_, by omega, by omega, by omega, rfl, ?_, h4⟩
        rw [show (n + 1).toNat = n.toNat + 1 by omega, List.take_add_one, List.take_add_one, he, hxi, hyi, heq]
    · rw [List.take_of_length_le (by omega), List.take_of_length_le (by omega)] at he
      have c2 : ∀ {v : Value}, ∀ i, (pkF y (.slice q m d))[i]? = some v → w3.cell? ((⟨k2, 0, none⟩ : Addr).add i) = some v := fun i e => cell_blk h3 e
      have c1 : ∀ {v : Value}, ∀ i, (pkF x (.slice p l c))[i]? = some v → w3.cell? ((⟨k1, 0, none⟩ : Addr).add i) = some v := fun i e => cell_blk h3.right e
      have hF := h3.right.right
      have no : ∀ {X : Prop}, (x = y → X) → ¬ X → Value.bool false = .bool (decide (x = y)) ∧ Sat w₀ F w3 := fun hX hn => ⟨by rw [decide_eq_false fun e => hn (hX e)], hF⟩
      refine ldI_ok (c1 0 rfl) <| ldI_ok (c2 0 rfl) <| br_split (fun e0 => ?_) (fun hn => no (X := x.kd = y.kd) (fun e => by rw [e]) (by simpa using hn))
      refine ldI_ok (c1 1 rfl) <| ldI_ok (c2 1 rfl) <| br_split (fun e1 => ?_) (fun hn => no (X := x.fr = y.fr) (fun e => by rw [e]) (by simpa using hn))
      refine ldI_ok (c1 2 rfl) <| ldI_ok (c2 2 rfl) <| br_split (fun e2 => ?_) (fun hn => no (X := x.to = y.to) (fun e => by rw [e]) (by simpa using hn))
      refine ldI_ok (c1 3 rfl) <| ldI_ok (c2 3 rfl) <| br_split (fun e3 => ?_) (fun hn => no (X := x.sq = y.sq) (fun e => by rw [e]) (by simpa using hn))
      refine ldI_ok (c1 4 rfl) <| ldI_ok (c2 4 rfl) <| br_split (fun e4 => ?_) (fun hn => no (X := x.cl = y.cl) (fun e => by rw [e]) (by simpa using hn))
      refine ldIp h3.right hx <| ldIp h3 hy <| still_guid hx hy <| br_split (fun e5 => ?_) (fun hn => no (X := x.ip = y.ip) (fun e => by rw [e]) (by simpa using hn))
      refine ldI_ok (t1 h3 0 rfl) <| ldI_ok (t2 h3 0 rfl) <| br_split (fun e6 => ?_) (fun hn => no (X := x.md = y.md) (fun e => by rw [e]) (by simpa using hn))
      refine ldI_ok (t1 h3 1 rfl) <| ldI_ok (t2 h3 1 rfl) <| br_split (fun e7 => ?_) (fun hn => no (X := x.n = y.n) (fun e => by rw [e]) (by simpa using hn))
      refine ldI_ok (t1 h3 2 rfl) <| ldI_ok (t2 h3 2 rfl) ⟨?_, hF⟩
      simp at e0 e1 e2 e3 e4 e5 e6 e7
      congr 1
      rw [Bool.eq_iff_iff]
      simp [pk_iff, e0, e1, e2, e3, e4, e5, e6, e7, he]
end

/-! ### which one is right -/
def RightP (x : PK) : Prop := 0 ≤ x.fr ∧ x.fr ≤ 3 ∧ 0 ≤ x.to ∧ x.to ≤ 3 ∧ x.fr ≠ x.to ∧
  ((x.kd = 1 ∧ x.rs.length ≤ 1 ∧ (∀ r ∈ x.rs, rightB r.1 = true) ∧ 0 ≤ x.md ∧ x.md ≤ 7 ∧ x.cd = 0) ∨
   (x.kd = 2 ∧ x.ip = z16 ∧ x.md = 0 ∧ x.rs = [] ∧ 0 ≤ x.cd ∧ x.cd ≤ 20) ∨
   ((x.kd = 3 ∨ x.kd = 4) ∧ x.cl = 0 ∧ x.md = 0 ∧ x.cd = 0 ∧ x.rs = [] ∧ 1 ≤ x.n ∧ x.n ≤ 4294967295) ∨
   (x.kd = 5 ∧ x.cl = 0 ∧ x.ip = z16 ∧ x.md = 0 ∧ x.cd = 0 ∧ x.n = 0 ∧ x.rs = []))
instance (x : PK) : Decidable (RightP x) := by unfold RightP; infer_instance
end Go.Proofs.Ytjjnbcdcppnllaa
