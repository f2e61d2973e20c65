
/- Packets: both ways to tell which one is right. No conditions. -/
import Derived.Test.YtjjnbcdcppnllaaP1
set_option linter.unusedVariables false
set_option linter.unusedSimpArgs false
set_option maxRecDepth 100000
namespace Go.Proofs.Ytjjnbcdcppnllaa
open Go.Sp Go.RowKit
section
variable {w₀ w : World} {F : HP} {x : PK} {p : Option Addr} {l c : Nat}
theorem ref_Right_ok (h : Sat w₀ F w) (hx : PIn x) (gx : Gives F 36 p l (x.rs.flatMap orC)) :
    call Try.prog fn_tenonref08_Right #[.agg (pkF x (.slice p l c))] w fun v w' => v = .bool (decide (RightP x)) ∧ Sat w₀ F w' := by
  apply tenonref08_Right_call
  unfold tenonref08_Right
  refine new_ok h fun k1 w1 h1 => ?_
  have h1 : Sat w₀ (blk k1 (pkF x (.slice p l c)) T_api_Packet * F) w1 := h1
  have el := refs_len (gx _ _ h)
  have no : ∀ {w}, Sat w₀ F w → ¬ RightP x → Value.bool false = .bool (decide (RightP x)) ∧ Sat w₀ F w := fun h hn => ⟨by rw [decide_eq_false hn], h⟩
  have yes : ∀ {w} {b : Bool}, Sat w₀ F w → (b = true ↔ RightP x) → Value.bool b = .bool (decide (RightP x)) ∧ Sat w₀ F w := fun h hb => ⟨by congr 1; rw [Bool.eq_iff_iff]; simpa using hb, h⟩
  have c1 : ∀ {w : World} {v : Value}, Sat w₀ (blk k1 (pkF x (.slice p l c)) T_api_Packet * F) w → ∀ i, (pkF x (.slice p l c))[i]? = some v → w.cell? ((⟨k1, 0, none⟩ : Addr).add i) = some v := fun h i e => cell_blk h e
  have t1 : ∀ {w : World} {v : Value}, Sat w₀ (blk k1 (pkF x (.slice p l c)) T_api_Packet * F) w → ∀ j, (tlL x (.slice p l c))[j]? = some v → w.cell? ((⟨k1, 0, none⟩ : Addr).add (21 + j)) = some v := fun h j e => tlC h hx.ip j e
  refine ldI_ok (c1 h1 1 rfl) <| br_dec (fun h0 => no h1.right (by unfold RightP; omega)) (fun a0 => ?_)
  refine ldI_ok (c1 h1 1 rfl) <| br_dec (fun h0 => no h1.right (by unfold RightP; omega)) (fun a1 => ?_)
  refine ldI_ok (c1 h1 2 rfl) <| br_dec (fun h0 => no h1.right (by unfold RightP; omega)) (fun a2 => ?_)
  refine ldI_ok (c1 h1 2 rfl) <| br_dec (fun h0 => no h1.right (by unfold RightP; omega)) (fun a3 => ?_)
  refine ldI_ok (c1 h1 1 rfl) <| ldI_ok (c1 h1 2 rfl) <| br_split (fun h0 => no h1.right (by have : x.fr = x.to := (by simpa using h0); unfold RightP; omega)) (fun a4 => ?_)
  have a4 : x.fr ≠ x.to := by simpa using a4
  refine new_ok h1 fun k8 w2 h2 => stA_ok h2 rfl rfl (by simp [Value.oneCell']) fun w3 h3 => ?_
  have h3 : Sat w₀ (blk k8 (by8 z16).toArray T_api_Guid * (blk k1 (pkF x (.slice p l c)) T_api_Packet * F)) w3 := h3
  have hF := h3.right.right
  have g := gx _ _ hF
  have lz : ∀ {K : Array Value → Prop} {w}, Sat w₀ (blk k8 (by8 z16).toArray T_api_Guid * (blk k1 (pkF x (.slice p l c)) T_api_Packet * F)) w → K (by8 z16).toArray → ldA (⟨k8, 0, none⟩ : Addr) 16 w K := fun h hk => ldA_blk0 h (by simp [by8_length, z16]) hk
  have z : z16.length = 16 := rfl
  refine ldI_ok (c1 h3.right 0 rfl) <| br_split (fun k1' => ?_) (fun k1' => ?_)
  · have k1' : x.kd = 1 := by simpa using k1'
    have base : RightP x ↔ x.rs.length ≤ 1 ∧ (∀ r ∈ x.rs, rightB r.1 = true) ∧ 0 ≤ x.md ∧ x.md ≤ 7 ∧ x.cd = 0 := by
      unfold RightP
      constructor
      · rintro ⟨_, _, _, _, _, h | h | h | h⟩
        · exact h.2
        · omega
        · omega
        · omega
      · intro h
        exact ⟨by omega, by omega, by omega, by omega, a4, .inl ⟨k1', h⟩⟩
    refine ldS_ok (t1 h3.right 3 rfl) <| br_dec (fun h0 => no hF (by rw [base]; omega)) (fun b1 => ldS_ok (t1 h3.right 3 rfl) <| br_split (fun b2 => ?_) (fun b2 => ?_))
    · have b2 : l = 1 := by have : (l : Int) = 1 := by simpa using b2
                            omega
      obtain ⟨r, hr⟩ : ∃ r, x.rs = [r] := List.length_eq_one_iff.1 (by omega)
      have hri : x.rs[(0 : Int).toNat]? = some r := by rw [hr]; rfl
      refine ldS_ok (t1 h3.right 3 rfl) <| idx_ok g (by omega) (by omega) fun a ha => rd_refs g ha hri <| call_mono (tenonref07_Right_ok h3 r.2) ?_
      rintro _ w4 ⟨rfl, h4⟩
      have hall : (∀ q ∈ x.rs, rightB q.1 = true) ↔ rightB r.1 = true := by rw [hr]; simp
      refine asB_ok <| br_split (fun hb => no h4.right.right (by rw [base, hall]; intro h; rw [h.2.1] at hb; cases hb)) (fun hb => ?_)
      have hb : rightB r.1 = true := by simpa using hb
      refine ldI_ok (t1 h4.right 0 rfl) <| br_dec (fun m0 => ldI_ok (t1 h4.right 0 rfl) <| br_dec (fun m1 => ldI_ok (t1 h4.right 2 rfl) <| yes h4.right.right ?_) (fun m1 => no h4.right.right (by rw [base]; omega))) (fun m0 => no h4.right.right (by rw [base]; omega))
      rw [base, hall]
      simp [hb, hr]
      omega
    · have b2 : ¬ (l : Int) = 1 := by simpa using b2
      have hr : x.rs = [] := List.eq_nil_of_length_eq_zero (by omega)
      refine ldI_ok (t1 h3.right 0 rfl) <| br_dec (fun m0 => ldI_ok (t1 h3.right 0 rfl) <| br_dec (fun m1 => ldI_ok (t1 h3.right 2 rfl) <| yes hF ?_) (fun m1 => no hF (by rw [base]; omega))) (fun m0 => no hF (by rw [base]; omega))
      rw [base, hr]
      simp
      omega
  have k1' : x.kd ≠ 1 := by simpa using k1'
  have enil : x.rs = [] ↔ l = 0 := by rw [← List.length_eq_zero_iff]; omega
  refine br_split (fun k2 => ?_) (fun k2 => ?_)
  · have k2 : x.kd = 2 := by simpa using k2
    have base : RightP x ↔ x.ip = z16 ∧ x.md = 0 ∧ x.rs = [] ∧ 0 ≤ x.cd ∧ x.cd ≤ 20 := by
      unfold RightP
      constructor
      · rintro ⟨_, _, _, _, _, h | h | h | h⟩
        · omega
        · exact h.2
        · omega
        · omega
      · intro h
        exact ⟨by omega, by omega, by omega, by omega, a4, .inr (.inl ⟨k2, h⟩)⟩
    rw [enil] at base
    refine ldIp h3.right hx.ip <| lz h3 <| still_guid hx.ip z <| br_split (fun b1 => ?_) (fun hn => no hF (by rw [base]; intro h; rw [h.1] at hn; simp at hn))
    have b1 : x.ip = z16 := by simpa using b1
    refine ldI_ok (t1 h3.right 0 rfl) <| br_split (fun b2 => ?_) (fun hn => no hF (by have : x.md ≠ 0 := (by simpa using hn); rw [base]; omega))
    have b2 : x.md = 0 := by simpa using b2
    refine ldS_ok (t1 h3.right 3 rfl) <| br_split (fun b3 => ?_) (fun hn => no hF (by have : ¬ (l : Int) = 0 := (by simpa using hn); rw [base]; omega))
    have b3 : (l : Int) = 0 := by simpa using b3
    refine ldI_ok (t1 h3.right 2 rfl) <| br_dec (fun m0 => ldI_ok (t1 h3.right 2 rfl) <| yes hF ?_) (fun m0 => no hF (by rw [base]; omega))
    rw [base]
    simp [b1, b2]
    omega
  have k2 : x.kd ≠ 2 := by simpa using k2
  refine ⟨fun b w => (b = true ↔ x.kd = 3 ∨ x.kd = 4) ∧ w = w3, ?_, ?_⟩
  · refine br_split (fun h => ⟨?_, rfl⟩) (fun h => ⟨?_, rfl⟩)
    · simp at h ⊢
      omega
    · simp at h ⊢
      omega
  rintro u b w5 ⟨hb, rfl⟩
  refine br_split (fun k3 => ?_) (fun k3 => ?_)
  · have k3 := hb.1 k3
    have base : RightP x ↔ x.cl = 0 ∧ x.md = 0 ∧ x.cd = 0 ∧ x.rs = [] ∧ 1 ≤ x.n ∧ x.n ≤ 4294967295 := by
      unfold RightP
      constructor
      · rintro ⟨_, _, _, _, _, h | h | h | h⟩
        · omega
        · omega
        · exact h.2
        · omega
      · intro h
        exact ⟨by omega, by omega, by omega, by omega, a4, .inr (.inr (.inl ⟨k3, h⟩))⟩
    rw [enil] at base
    refine ldI_ok (c1 h3.right 4 rfl) <| br_split (fun b1 => ?_) (fun hn => no hF (by have : x.cl ≠ 0 := (by simpa using hn); rw [base]; omega))
    refine ldI_ok (t1 h3.right 0 rfl) <| br_split (fun b2 => ?_) (fun hn => no hF (by have : x.md ≠ 0 := (by simpa using hn); rw [base]; omega))
    refine ldI_ok (t1 h3.right 2 rfl) <| br_split (fun b3 => ?_) (fun hn => no hF (by have : x.cd ≠ 0 := (by simpa using hn); rw [base]; omega))
    refine ldS_ok (t1 h3.right 3 rfl) <| br_split (fun b4 => ?_) (fun hn => no hF (by have : ¬ (l : Int) = 0 := (by simpa using hn); rw [base]; omega))
    refine ldI_ok (t1 h3.right 1 rfl) <| br_dec (fun m0 => ldI_ok (t1 h3.right 1 rfl) <| yes hF ?_) (fun m0 => no hF (by rw [base]; omega))
    simp at b1 b2 b3 b4
    rw [base]
    simp
    omega
  have k3 : ¬ (x.kd = 3 ∨ x.kd = 4) := fun h => by rw [hb.2 h] at k3; cases k3
  refine br_split (fun k5 => ?_) (fun k5 => ?_)
  · have k5 : x.kd = 5 := by simpa using k5
    have base : RightP x ↔ x.cl = 0 ∧ x.ip = z16 ∧ x.md = 0 ∧ x.cd = 0 ∧ x.n = 0 ∧ x.rs = [] := by
      unfold RightP
      constructor
      · rintro ⟨_, _, _, _, _, h | h | h | h⟩
        · omega
        · omega
        · omega
        · exact h.2
      · intro h
        exact ⟨by omega, by omega, by omega, by omega, a4, .inr (.inr (.inr ⟨k5, h⟩))⟩
    rw [enil] at base
    refine ldI_ok (c1 h3.right 4 rfl) <| br_split (fun b1 => ?_) (fun hn => no hF (by have : x.cl ≠ 0 := (by simpa using hn); rw [base]; omega))
    refine ldIp h3.right hx.ip <| lz h3 <| still_guid hx.ip z <| br_split (fun b5 => ?_) (fun hn => no hF (by rw [base]; intro h; rw [h.2.1] at hn; simp at hn))
    have b5 : x.ip = z16 := by simpa using b5
    refine ldI_ok (t1 h3.right 0 rfl) <| br_split (fun b2 => ?_) (fun hn => no hF (by have : x.md ≠ 0 := (by simpa using hn); rw [base]; omega))
    refine ldI_ok (t1 h3.right 2 rfl) <| br_split (fun b3 => ?_) (fun hn => no hF (by have : x.cd ≠ 0 := (by simpa using hn); rw [base]; omega))
    refine ldI_ok (t1 h3.right 1 rfl) <| br_split (fun b4 => ?_) (fun hn => no hF (by have : x.n ≠ 0 := (by simpa using hn); rw [base]; omega))
    refine ldS_ok (t1 h3.right 3 rfl) <| yes hF ?_
    simp at b1 b2 b3 b4
    rw [base]
    simp [b5, b1, b2, b3, b4]
  · have k5 : x.kd ≠ 5 := by simpa using k5
    exact no hF (by unfold RightP; omega)
theorem packet_home_ok (n : Int) : PureCall Try.prog fn_packet_home #[.int .i64 n] (.bool (decide (0 ≤ n ∧ n ≤ 3))) := by
  intro w
  apply packet_home_call
  unfold packet_home
  refine br_dec (fun h => ⟨?_, rfl⟩) (fun h => ⟨?_, rfl⟩)
  · congr 1
    rw [Bool.eq_iff_iff]
    simp
    omega
  · rw [decide_eq_false (by omega)]
def bareK (x : PK) : PK := { x with kd := 0, fr := 0, to := 0, sq := 0 }
theorem pk_lt {x : PK} {v : Value} {i : Nat} (h : i < 5) : i < (pkF x v).size := by simp [pkF, pkL]; omega
theorem pk_set {x : PK} {v u : Value} (i : Nat) (hi : i < 5) : (pkF x v).setIfInBounds i u = (([.int .i64 x.kd, .int .i64 x.fr, .int .i64 x.to, .int .u64 x.sq, .int .u64 x.cl] : List Value).set i u ++ (by8 x.ip ++ tlL x v)).toArray := by
  apply Array.ext'
  rw [Array.toList_setIfInBounds]
  show (pkL x v).set i u = _
  rw [pkL, List.set_append_left _ _ (by simpa using hi)]
theorem pk_setT {x : PK} {v u : Value} (hx : x.ip.length = 16) (j : Nat) : (pkF x v).setIfInBounds (21 + j) u = (([.int .i64 x.kd, .int .i64 x.fr, .int .i64 x.to, .int .u64 x.sq, .int .u64 x.cl] : List Value) ++ (by8 x.ip ++ (tlL x v).set j u)).toArray := by
  apply Array.ext'
  rw [Array.toList_setIfInBounds]
  show (pkL x v).set (21 + j) u = _
  rw [pkL, List.set_append_right _ _ (by simp; omega), List.set_append_right _ _ (by simp [by8_length, hx]; omega)]
  congr 3
  simp [by8_length, hx]
  omega
theorem packet_bare_ok (h : Sat w₀ F w) (hx : x.ip.length = 16) : call Try.prog fn_packet_bare #[.agg (pkF x (.slice p l c))] w fun v w' => v = .agg (pkF (bareK x) (.slice p l c)) ∧ Sat w₀ F w' := by
  apply packet_bare_call
  unfold packet_bare
  refine new_ok h fun k1 w1 h1 => new_ok h1 fun k2 w2 h2 => ?_
  have h3 := h2.perm (B := blk k1 (pkF x (.slice p l c)) T_api_Packet * (blk k2 (pkF pk0 (.slice none 0 0)) T_api_Packet * F)) (by
    show blk k2 (pkF pk0 (.slice none 0 0)) _ * (blk k1 (pkF x (.slice p l c)) _ * F) = _
    ac_rfl)
  have sz := pk_size (x := x) (v := .slice p l c) hx
  refine st_ok (i := 0) h3 (pk_lt (by decide)) fun w3 h3 => ?_
  rw [pk_set 0 (by omega)] at h3
  have h3 : Sat w₀ (blk k1 (pkF { x with kd := 0 } (.slice p l c)) T_api_Packet * (blk k2 (pkF pk0 (.slice none 0 0)) T_api_Packet * F)) w3 := h3
  refine st_ok (i := 1) h3 (pk_lt (by decide)) fun w4 h4 => ?_
  rw [pk_set 1 (by omega)] at h4
  have h4 : Sat w₀ (blk k1 (pkF { x with kd := 0, fr := 0 } (.slice p l c)) T_api_Packet * (blk k2 (pkF pk0 (.slice none 0 0)) T_api_Packet * F)) w4 := h4
  refine st_ok (i := 2) h4 (pk_lt (by decide)) fun w5 h5 => ?_
  rw [pk_set 2 (by omega)] at h5
  have h5 : Sat w₀ (blk k1 (pkF { x with kd := 0, fr := 0, to := 0 } (.slice p l c)) T_api_Packet * (blk k2 (pkF pk0 (.slice none 0 0)) T_api_Packet * F)) w5 := h5
  refine st_ok (i := 3) h5 (pk_lt (by decide)) fun w6 h6 => ?_
  rw [pk_set 3 (by omega)] at h6
  have h6 : Sat w₀ (blk k1 (pkF (bareK x) (.slice p l c)) T_api_Packet * (blk k2 (pkF pk0 (.slice none 0 0)) T_api_Packet * F)) w6 := h6
  refine ldPk h6 hx <| stA_ok h6.p1 (pk_size rfl) (pk_size hx) pk_one fun w7 h7 => ldPk h7 hx ⟨rfl, h7.right.right⟩
end
end Go.Proofs.Ytjjnbcdcppnllaa
