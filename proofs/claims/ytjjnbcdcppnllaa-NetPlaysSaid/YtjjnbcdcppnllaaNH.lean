/- Nets: what is told of all that is under way; the law's row and same. No conditions. -/
import Derived.Test.YtjjnbcdcppnllaaNG
set_option linter.unusedVariables false
set_option linter.unusedSimpArgs false
set_option maxRecDepth 100000
namespace Go.Proofs.Ytjjnbcdcppnllaa
open Go.Sp Go.RowKit

section
variable {w₀ w : World} {F : HP}
theorem slices_CloneB_ok {p : Option Addr} {l c : Nat} {rows : List BRow} (h : Sat w₀ F w) (hx : Gives F 1 p l (rows.flatMap bsF)) (hr : rows.length = l) (hl : l ≤ 100000) :
    call Try.prog fn_slices_Clone #[.slice p l c] w fun v w' => ∃ q d, v = .slice q l d ∧ Sat w₀ (tab T_sl_uint8 1 bsF q l d rows * F) w' := by
  apply slices_Clone_call
  unfold slices_Clone
  refine br_split (fun hn => ?_) (fun hn => ?_)
  · have hp : p = none := by cases p with | none => rfl | some a => simp at hn
    have h0 : l = 0 := by
      rcases Nat.eq_zero_or_pos l with h0 | h0
      · exact h0
      · obtain ⟨a, e⟩ := (hx _ _ h).2.1 h0
        rw [hp] at e; cases e
    subst h0
    have hr0 : rows = [] := List.eq_nil_of_length_eq_zero hr
    subst hr0
    exact ⟨none, 0, rfl, tab_nil _ _ _ h⟩
  · refine new_ok h fun k1 w1 h1 => ?_
    have h2 := h1.own_full (t := T_sl_uint8) (sz := 1) (n := 0) rfl (by decide)
    have hold : Rd w1 1 p l (rows.flatMap bsF) := hx _ _ h2.right
    refine app_ok bssTy h2 hold (tab_mem bsF_one) (by simp only [maxLen]; omega) (by omega) fun p' c' w' h3 => ?_
    rw [Nat.zero_add] at h3 ⊢
    exact ⟨p', c', rfl, h3⟩
end
def nY (row : List PK) (j : Nat) (x : Array Value) (H : HP) : Prop := ∃ (y : PK) (q : Option Addr) (m d : Nat), row[j]? = some y ∧ x = #[.int .i64 j, .agg (pkF y (.slice q m d))] ∧ m ≤ 1 ∧ Gives H 36 q m (y.rs.flatMap orC)
section
variable {w₀ : World} {n : Int}
theorem nAll_iter {k b : Nat} {M : NM} {ST : HP} {rows : List BRow} {p : Option Addr} {c m1 m2 : Nat} {Pre : Nat → HP} (hrow : NRow ST rows M.row) (hM : NOk M n)
    (hk : ∀ w, Sat w₀ (Pre 0) w → Sat w₀ (blk k #[.pointer (some ⟨b, 0, none⟩)] 25) w)
    (hb : ∀ w, Sat w₀ (Pre 0) w → Sat w₀ (blk b (nA M.most p rows.length c m1 m2) T_net_Net) w)
    (ht : ∀ w₀ w, Sat w₀ (Pre 0) w → Sat w₀ (tab T_sl_uint8 1 bsF p rows.length c rows) w)
    (hS : ∀ w₀ j w, Sat w₀ (Pre j) w → Sat w₀ ST w) :
    IterG Try.prog w₀ fn_net_Net_All_1 #[.pointer (some ⟨k, 0, none⟩)] Pre M.row.length (nY M.row) := by
  intro f f2 f3 B Bx hok hB hy F w h
  show call Try.prog _ #[.func f f2 f3, .pointer (some ⟨k, 0, none⟩)] w _
  apply net_Net_All_1_call
  unfold net_Net_All_1
  have hrl := hrow.len
  have hl := hM.len
  have hm := hM.m1
  refine ldP_ok ((hk _ (hB _ 0 _ h.left)).cell (i := 0) rfl) <| br_false rfl <| ldP_ok ((hk _ (hB _ 0 _ h.left)).cell (i := 0) rfl) <| nn_ok <| ldS_ok (cell_blk (hb _ (hB _ 0 _ h.left)).with_emp.e1 (i := 1) rfl) ?_
  have gv : Gives (B 0 * F) 1 p rows.length (rows.flatMap bsF) := Gives.left fun w₀' w' hs => (ht _ _ (hB _ 0 _ hs)).rd
  refine call_mono (slices_CloneB_ok h gv rfl (by omega)) ?_
  rintro _ w1 ⟨q, d, rfl, h1⟩
  refine asS_ok ⟨fun i w m => 0 ≤ i ∧ i ≤ rows.length ∧ m = rows.length - i.toNat ∧ Sat w₀ (tab T_sl_uint8 1 bsF q rows.length d rows * (B i.toNat * F)) w, ⟨_, by omega, by omega, rfl, h1⟩, ?_⟩
  clear h h1
  rintro u i w2 m ⟨i0, il, rfl, h2⟩
  refine br_dec (fun hlt => ?_) (fun hge => .inl ?_)
  · obtain ⟨j, rfl⟩ : ∃ j : Nat, i = j := ⟨i.toNat, by omega⟩
    rw [Int.toNat_natCast] at h2 ⊢
    have hj : j < rows.length := by omega
    obtain ⟨r, hr⟩ : ∃ r, rows[j]? = some r := ⟨_, List.getElem?_eq_getElem hj⟩
    obtain ⟨y, hy0⟩ : ∃ y, M.row[j]? = some y := ⟨_, List.getElem?_eq_getElem (by omega)⟩
    obtain ⟨a1, a2, a3⟩ := hrow.all j r y hr hy0
    obtain ⟨yin, yr⟩ := hM.row y (List.mem_of_getElem? hy0)
    have ys := encP_small yin yr
    have gr : Gives (tab T_sl_uint8 1 bsF q rows.length d rows * (B j * F)) 1 r.p r.l (by8 (encP y)) := Gives.right (Gives.left fun w₀' w' hs => a3 _ _ (hS _ j _ (hB _ j _ hs)))
    refine tab_idx bsF_len h2.left (by decide) (by omega) (by rw [Int.toNat_natCast]; exact hr) fun g hg => ldS_ok (p := r.p) (l := r.l) (c := r.c) (by rw [Int.toNat_natCast]; have := tab_cell bsF_len h2.left hg hr (j := 0) (by decide) rfl; rwa [Sp.add_zero] at this) ?_
    refine call_mono (packet_Decode_ok (bs := encP y) h2 gr a2 (by omega) (encP_by yin yr)) ?_
    rintro _ w4 ⟨z, q2, m, d2, e, G, rfl, zin, hm, hG, h3, ⟨rfl, _, huniq⟩ | ⟨_, _, hno⟩⟩
    case inr => exact absurd ⟨yin, yr, rfl⟩ (hno y)
    have hyz : y = z := huniq y ⟨yin, yr, rfl⟩
    subst hyz
    refine ⟨_, _, rfl, new_ok h3 fun k17 w5 h4 => stPk h4 (pk_size (x := pk0) (v := .slice none 0 0) rfl) yin.ip fun w6 h5 => ldPk h5 yin.ip ?_⟩
    have h5 : Sat w₀ (blk k17 (pkF y (.slice q2 m d2)) T_api_Packet * (G * (tab T_sl_uint8 1 bsF q rows.length d rows * (B j * F)))) w6 := h5
    refine callV_mono (hy j #[.int .i64 j, .agg (pkF y (.slice q2 m d2))] G (by omega) ⟨y, q2, m, d2, hy0, rfl, hm, hG⟩ (blk k17 (pkF y (.slice q2 m d2)) T_api_Packet * (tab T_sl_uint8 1 bsF q rows.length d rows * F)) _ (h5.perm (by ac_rfl))) ?_
    have e1 : ((j : Int) + 1).toNat = j + 1 := by omega
    rintro v w7 (⟨rfl, h7⟩ | ⟨rfl, h7⟩)
    · refine asB_ok <| br_false rfl <| arith_i64 (by omega) (by omega) ⟨_, ?_, by omega, by omega, rfl, ?_⟩
      · omega
      · rw [e1]
        exact (h7.perm (B := blk k17 (pkF y (.slice q2 m d2)) T_api_Packet * (tab T_sl_uint8 1 bsF q rows.length d rows * (B (j + 1) * F))) (by ac_rfl)).right
    · exact asB_ok <| br_true rfl <| .inr ((h7.perm (B := (blk k17 (pkF y (.slice q2 m d2)) T_api_Packet * tab T_sl_uint8 1 bsF q rows.length d rows) * (Bx * F)) (by ac_rfl)).right)
  · have e : i.toNat = M.row.length := by omega
    rw [e] at h2
    exact h2.right
end
end Go.Proofs.Ytjjnbcdcppnllaa
