
/- Packets: the program's check. No conditions. -/
import Derived.Test.YtjjnbcdcppnllaaP2
set_option linter.unusedVariables false
set_option linter.unusedSimpArgs false
set_option maxRecDepth 100000
namespace Go.Proofs.Ytjjnbcdcppnllaa
open Go.Sp Go.RowKit
section
variable {w₀ w : World} {F : HP} {x : PK} {p : Option Addr} {l c : Nat} {k : Nat} {t : TypeId} {v : Value}
theorem stIp {q : List Int} {K : World → Prop} (h : Sat w₀ (blk k (pkF x v) t * F) w) (hx : x.ip.length = 16) (hq : q.length = 16) (hk : ∀ w', Sat w₀ (blk k (pkF { x with ip := q } v) t * F) w' → K w') : stA Try.prog ((⟨k, 0, none⟩ : Addr).add 5) 16 (by8 q).toArray w K := by
  refine stA_at h (by rw [pk_size hx]; decide) (by simp [by8_length, hq]) (by simpa using by8_one q) fun w' h' => hk w' ?_
  have e : ((pkF x v).toList.take 5 ++ (by8 q).toArray.toList ++ (pkF x v).toList.drop (5 + 16)).toArray = pkF { x with ip := q } v := by
    apply Array.ext'
    show (pkL x v).take 5 ++ by8 q ++ (pkL x v).drop (5 + 16) = pkL { x with ip := q } v
    unfold pkL
    rw [List.take_left' (by rfl), ← List.append_assoc, ← List.append_assoc, List.drop_left' (by simp [by8_length, hx])]
    rfl
  rw [e] at h'
  exact h'
theorem pk_ltT (hx : x.ip.length = 16) {i : Nat} (h : i < 25) : i < (pkF x v).size := by rw [pk_size hx]; exact h
def KindP (x : PK) : Prop :=
  (x.kd = 1 ∧ x.rs.length ≤ 1 ∧ (∀ r ∈ x.rs, rightB r.1 = true) ∧ 0 ≤ x.md ∧ x.md ≤ 7 ∧ x.cd = 0) ∨
   (x.kd = 2 ∧ x.ip = z16 ∧ x.md = 0 ∧ x.rs = [] ∧ 0 ≤ x.cd ∧ x.cd ≤ 20) ∨
   ((x.kd = 3 ∨ x.kd = 4) ∧ x.cl = 0 ∧ x.md = 0 ∧ x.cd = 0 ∧ x.rs = [] ∧ 1 ≤ x.n ∧ x.n ≤ 4294967295) ∨
   (x.kd = 5 ∧ x.cl = 0 ∧ x.ip = z16 ∧ x.md = 0 ∧ x.cd = 0 ∧ x.n = 0 ∧ x.rs = [])
instance (x : PK) : Decidable (KindP x) := by unfold KindP; infer_instance
theorem packet_right_ok (h : Sat w₀ F w) (hx : PIn x) (gx : Gives F 36 p l (x.rs.flatMap orC)) (hl : l ≤ 4611686018427387904) :
    call Try.prog fn_packet_right #[.agg (pkF x (.slice p l c))] w fun v w' => v = .bool (decide (KindP x)) ∧ Sat w₀ F w' := by
  apply packet_right_call
  unfold packet_right
  refine new_ok h fun k1 w1 h1 => ldPk h1 hx.ip <| call_mono (packet_bare_ok h1 hx.ip) ?_
  rintro _ w2 ⟨rfl, h2⟩
  refine asA_ok <| new_ok h2 fun k5 w3 h3 => stA_ok h3 rfl (pk_size hx.ip) pk_one fun w4 h4 => ?_
  have h4 : Sat w₀ (blk k5 (pkF (bareK x) (.slice p l c)) T_api_Packet * (blk k1 (pkF x (.slice p l c)) T_api_Packet * F)) w4 := h4
  have el := refs_len (gx _ _ h)
  have enil : x.rs = [] ↔ l = 0 := by rw [← List.length_eq_zero_iff]; omega
  have no : ∀ {w}, Sat w₀ F w → ¬ KindP x → Value.bool false = .bool (decide (KindP x)) ∧ Sat w₀ F w := fun h hn => ⟨by rw [decide_eq_false hn], h⟩
  have yes : ∀ {w} {b : Bool}, Sat w₀ F w → (b = true ↔ KindP x) → Value.bool b = .bool (decide (KindP x)) ∧ Sat w₀ F w := fun h hb => ⟨by congr 1; rw [Bool.eq_iff_iff]; simpa using hb, h⟩
  have c1 : ∀ {w : World} {A : HP} {v : Value}, Sat w₀ (A * (blk k1 (pkF x (.slice p l c)) T_api_Packet * F)) w → ∀ i, (pkF x (.slice p l c))[i]? = some v → w.cell? ((⟨k1, 0, none⟩ : Addr).add i) = some v := fun h i e => cell_blk h.right e
  have t1 : ∀ {w : World} {A : HP} {v : Value}, Sat w₀ (A * (blk k1 (pkF x (.slice p l c)) T_api_Packet * F)) w → ∀ j, (tlL x (.slice p l c))[j]? = some v → w.cell? ((⟨k1, 0, none⟩ : Addr).add (21 + j)) = some v := fun h j e => tlC h.right hx.ip j e
  -- is what is left nothing?
  have fin : ∀ {w : World} {y : PK} {q : Option Addr} {m d : Nat}, Sat w₀ (blk k5 (pkF y (.slice q m d)) T_api_Packet * (blk k1 (pkF x (.slice p l c)) T_api_Packet * F)) w → y.ip.length = 16 → Gives F 36 q m (y.rs.flatMap orC) → m ≤ 4611686018427387904 → (y = pk0 ↔ KindP x) →
      ldA (⟨k5, 0, none⟩ : Addr) 25 w fun g => call Try.prog fn_packet_Same #[.agg g, .agg (pkF pk0 (.slice none 0 0))] w fun v w' => asB v fun b => Value.bool b = .bool (decide (KindP x)) ∧ Sat w₀ F w' := by
    intro w y q m d h hy gy hm hiff
    refine ldPk h hy <| call_mono (packet_Same_ok (y := pk0) h hy rfl (Gives.right (Gives.right gy)) (Gives.nil _ _ _) hm) ?_
    rintro _ w' ⟨rfl, h'⟩
    exact asB_ok <| yes h'.right.right (by simpa using hiff)
  refine ldI_ok (c1 h4 0 rfl) <| br_split (fun k1' => ?_) (fun k1' => ?_)
  · have k1' : x.kd = 1 := by simpa using k1'
    have base : KindP x ↔ x.rs.length ≤ 1 ∧ (∀ r ∈ x.rs, rightB r.1 = true) ∧ 0 ≤ x.md ∧ x.md ≤ 7 ∧ x.cd = 0 := by
      unfold KindP
      constructor
      · rintro (h | h | h | h)
        · exact h.2
        · omega
        · omega
        · omega
      · exact fun h => .inl ⟨k1', h⟩
    refine ldI_ok (t1 h4 0 rfl) <| br_dec (fun h0 => no h4.right.right (by rw [base]; omega)) (fun m0 => ?_)
    refine ldI_ok (t1 h4 0 rfl) <| br_dec (fun h0 => no h4.right.right (by rw [base]; omega)) (fun m1 => ?_)
    refine ldS_ok (t1 h4 3 rfl) <| br_dec (fun h0 => no h4.right.right (by rw [base]; omega)) (fun b1 => ldS_ok (t1 h4 3 rfl) <| br_split (fun b2 => ?_) (fun b2 => ?_))
    · have b2 : (l : Int) = 1 := by simpa using b2
      have g := gx _ _ h4.right.right
      obtain ⟨r, hr⟩ : ∃ r, x.rs = [r] := List.length_eq_one_iff.1 (by omega)
      have hri : x.rs[(0 : Int).toNat]? = some r := by rw [hr]; rfl
      refine ldS_ok (t1 h4 3 rfl) <| idx_ok g (by omega) (by omega) fun a ha => rd_refs g ha hri <| call_mono (objref_Check_ok h4 r.2) ?_
      rintro _ w5 ⟨rfl, h5⟩
      have hall : (∀ q ∈ x.rs, rightB q.1 = true) ↔ rightB r.1 = true := by rw [hr]; simp
      refine asI_ok <| br_split (fun hb => no h5.right.right (by rw [base, hall]; intro h; rw [h.2.1] at hb; simp at hb)) (fun hb => ?_)
      have hb : rightB r.1 = true := by
        cases hq : rightB r.1
        · rw [hq] at hb; simp at hb
        · rfl
      refine ldI_ok (t1 h5 2 rfl) <| stA_ok h5 (pk_size hx.ip) rfl (by simp [Value.oneCell']) fun w6 h6 => fin (y := { pk0 with cd := x.cd }) (q := none) (m := 0) (d := 0) h6 rfl (Gives.nil _ _ _) (by decide) ?_
      rw [base, hall, pk_iff]
      simp [pk0, hb, hr]
      omega
    · have b2 : ¬ (l : Int) = 1 := by simpa using b2
      have hr : x.rs = [] := List.eq_nil_of_length_eq_zero (by omega)
      refine ldI_ok (t1 h4 2 rfl) <| stA_ok h4 (pk_size hx.ip) rfl (by simp [Value.oneCell']) fun w6 h6 => fin (y := { pk0 with cd := x.cd }) (q := none) (m := 0) (d := 0) h6 rfl (Gives.nil _ _ _) (by decide) ?_
      rw [base, pk_iff]
      simp [pk0, hr]
      omega
  have k1' : x.kd ≠ 1 := by simpa using k1'
  refine br_split (fun k2 => ?_) (fun k2 => ?_)
  · have k2 : x.kd = 2 := by simpa using k2
    have base : KindP x ↔ x.ip = z16 ∧ x.md = 0 ∧ x.rs = [] ∧ 0 ≤ x.cd ∧ x.cd ≤ 20 := by
      unfold KindP
      constructor
      · rintro (h | h | h | h)
        · omega
        · exact h.2
        · omega
        · omega
      · exact fun h => .inr (.inl ⟨k2, h⟩)
    refine ldI_ok (t1 h4 2 rfl) <| br_dec (fun h0 => no h4.right.right (by rw [base]; omega)) (fun m0 => ?_)
    refine ldI_ok (t1 h4 2 rfl) <| br_dec (fun h0 => no h4.right.right (by rw [base]; omega)) (fun m1 => ?_)
    refine st_ok (i := 4) h4 (pk_lt (by decide)) fun w5 h5 => ?_
    rw [pk_set 4 (by omega)] at h5
    have h5 : Sat w₀ (blk k5 (pkF { bareK x with cl := 0 } (.slice p l c)) T_api_Packet * (blk k1 (pkF x (.slice p l c)) T_api_Packet * F)) w5 := h5
    refine st_ok (i := 23) h5 (pk_ltT (i := 23) (by exact hx.ip) (by decide)) fun w6 h6 => ?_
    rw [show 23 = 21 + 2 from rfl, pk_setT (by exact hx.ip)] at h6
    have h6 : Sat w₀ (blk k5 (pkF { bareK x with cl := 0, cd := 0 } (.slice p l c)) T_api_Packet * (blk k1 (pkF x (.slice p l c)) T_api_Packet * F)) w6 := h6
    refine st_ok (i := 22) h6 (pk_ltT (i := 22) (by exact hx.ip) (by decide)) fun w7 h7 => ?_
    rw [show 22 = 21 + 1 from rfl, pk_setT (by exact hx.ip)] at h7
    refine fin (y := { bareK x with cl := 0, cd := 0, n := 0 }) h7 hx.ip gx hl ?_
    rw [base, pk_iff]
    simp [pk0, bareK]
    omega
  have k2 : x.kd ≠ 2 := by simpa using k2
  refine ⟨fun b w => (b = true ↔ x.kd = 3 ∨ x.kd = 4) ∧ w = w4, ?_, ?_⟩
  · refine br_split (fun h => ⟨?_, rfl⟩) (fun h => ⟨?_, rfl⟩)
    · simp at h ⊢
      omega
    · simp at h ⊢
      omega
  rintro u b w5 ⟨hb, rfl⟩
  refine br_split (fun k3 => ?_) (fun k3 => ?_)
  · have k3 := hb.1 k3
    have base : KindP x ↔ x.cl = 0 ∧ x.md = 0 ∧ x.cd = 0 ∧ x.rs = [] ∧ 1 ≤ x.n ∧ x.n ≤ 4294967295 := by
      unfold KindP
      constructor
      · rintro (h | h | h | h)
        · omega
        · omega
        · exact h.2
        · omega
      · exact fun h => .inr (.inr (.inl ⟨k3, h⟩))
    refine ldI_ok (t1 h4 1 rfl) <| br_dec (fun h0 => no h4.right.right (by rw [base]; omega)) (fun m0 => ?_)
    refine ldI_ok (t1 h4 1 rfl) <| br_dec (fun h0 => no h4.right.right (by rw [base]; omega)) (fun m1 => ?_)
    refine stIp (q := z16) h4 hx.ip rfl fun w6 h6 => ?_
    refine st_ok (i := 22) h6 (pk_ltT (i := 22) (by rfl) (by decide)) fun w7 h7 => ?_
    rw [show 22 = 21 + 1 from rfl, pk_setT (by rfl)] at h7
    refine fin (y := { bareK x with ip := z16, n := 0 }) h7 rfl gx hl ?_
    rw [base, pk_iff]
    simp [pk0, bareK]
    omega
  have k3 : ¬ (x.kd = 3 ∨ x.kd = 4) := fun h => by rw [hb.2 h] at k3; cases k3
  refine br_split (fun k5' => ?_) (fun k5' => ?_)
  · have k5' : x.kd = 5 := by simpa using k5'
    refine fin (y := bareK x) h4 hx.ip gx hl ?_
    unfold KindP
    rw [pk_iff]
    constructor <;> intro h <;> simp [pk0, bareK, k5'] at h ⊢ <;> grind
  · have k5' : x.kd ≠ 5 := by simpa using k5'
    exact no h4.right.right (by unfold KindP; omega)
theorem packet_Check_ok (h : Sat w₀ F w) (hx : PIn x) (gx : Gives F 36 p l (x.rs.flatMap orC)) (hl : l ≤ 4611686018427387904) :
    call Try.prog fn_packet_Check #[.agg (pkF x (.slice p l c))] w fun v w' => v = .int .i64 (if RightP x then 0 else 5) ∧ Sat w₀ F w' := by
  apply packet_Check_call
  unfold packet_Check
  refine new_ok h fun k1 w1 h1 => ?_
  have base : RightP x ↔ (0 ≤ x.fr ∧ x.fr ≤ 3) ∧ (0 ≤ x.to ∧ x.to ≤ 3) ∧ x.fr ≠ x.to ∧ KindP x := by
    unfold RightP KindP
    constructor
    · rintro ⟨a, b, c, d, e, f⟩; exact ⟨⟨a, b⟩, ⟨c, d⟩, e, f⟩
    · rintro ⟨⟨a, b⟩, ⟨c, d⟩, e, f⟩; exact ⟨a, b, c, d, e, f⟩
  have no : ∀ {w}, Sat w₀ F w → ¬ RightP x → Value.int .i64 5 = .int .i64 (if RightP x then 0 else 5) ∧ Sat w₀ F w := fun h hn => ⟨by rw [if_neg hn], h⟩
  refine ldI_ok (cell_blk h1 (i := 1) rfl) <| call_pure (packet_home_ok _) <| asB_ok <| br_split (fun hn => no h1.right (by rw [base]; intro h; simp [h.1] at hn)) (fun a1 => ?_)
  refine ldI_ok (cell_blk h1 (i := 2) rfl) <| call_pure (packet_home_ok _) <| asB_ok <| br_split (fun hn => no h1.right (by rw [base]; intro h; simp [h.2.1] at hn)) (fun a2 => ?_)
  refine ldI_ok (cell_blk h1 (i := 1) rfl) <| ldI_ok (cell_blk h1 (i := 2) rfl) <| br_split (fun hn => no h1.right (by rw [base]; intro h; simp [h.2.2.1] at hn)) (fun a3 => ?_)
  refine ldPk h1 hx.ip <| call_mono (packet_right_ok h1 hx (Gives.right gx) hl) ?_
  rintro _ w2 ⟨rfl, h2⟩
  refine asB_ok <| br_split (fun hn => no h2.right (by rw [base]; intro h; simp [h.2.2.2] at hn)) (fun a4 => ⟨?_, h2.right⟩)
  simp at a1 a2 a3 a4
  rw [if_pos (base.2 ⟨a1, a2, a3, a4⟩)]
end
end Go.Proofs.Ytjjnbcdcppnllaa
