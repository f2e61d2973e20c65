/- Nets: the example; a net that is none. No conditions. -/
import Derived.Test.YtjjnbcdcppnllaaN3
set_option linter.unusedVariables false
set_option linter.unusedSimpArgs false
set_option maxRecDepth 100000
namespace Go.Proofs.Ytjjnbcdcppnllaa
open Go.Sp Go.RowKit

def pkP : PK := ⟨5, 0, 1, 0, 0, z16, 0, 0, 0, []⟩
theorem pkP_in : PIn pkP := ⟨⟨by decide, by decide⟩, ⟨by decide, by decide⟩, ⟨by decide, by decide⟩, ⟨by decide, by decide⟩, ⟨by decide, by decide⟩, rfl, by decide, ⟨by decide, by decide⟩, ⟨by decide, by decide⟩, ⟨by decide, by decide⟩⟩
def pk1 : PK := sqP pkP 1
theorem pk1_in : PIn pk1 := ⟨⟨by decide, by decide⟩, ⟨by decide, by decide⟩, ⟨by decide, by decide⟩, ⟨by decide, by decide⟩, ⟨by decide, by decide⟩, rfl, by decide, ⟨by decide, by decide⟩, ⟨by decide, by decide⟩, ⟨by decide, by decide⟩⟩
theorem pk1_right : RightP pk1 := by decide
def se1 : Road → Option Int := upd (fun _ => none) (0, 1) (some 1)
def aM0 : NM := ⟨4, [], fun _ => none, fun _ => none⟩
def aM1 : NM := ⟨4, [pk1], se1, fun _ => none⟩
def aM2 : NM := ⟨4, [pk1, pk1], se1, fun _ => none⟩
def aM3 : NM := ⟨4, [pk1], se1, upd (fun _ => none) ((0, 1), 1) (some ())⟩
theorem aw1 : sendM aM0 pkP = (aM1, 1, 0) := by
  have h1 : nx aM0 (pkP.fr, pkP.to) = 1 := rfl
  have h2 : RightP (sqP pkP 1) := pk1_right
  unfold sendM
  rw [h1, if_neg (fun q => q h2), if_neg (by decide)]
  rfl
theorem aw2 : dblM aM1 0 = (aM2, 0) := rfl
theorem aw3 : delM' aM2 0 = (aM3, pk1, true, 0) := rfl
theorem aw4 : (delM' aM3 0).2 = (pk1, false, 0) := rfl
theorem se1_ok : ∀ r k, se1 r = some k → 0 ≤ k ∧ k ≤ 5 := fun r k h => by
  unfold se1 upd at h
  split at h
  · cases h; decide
  · cases h
theorem aok0 : NOk aM0 5 := ⟨by decide, by decide, by decide, (fun x hx => by cases hx), (fun r k h => by cases h)⟩
theorem row1 : ∀ x ∈ ([pk1] : List PK), PIn x ∧ RightP x := fun x hx => by
  rw [List.mem_singleton] at hx; subst hx; exact ⟨pk1_in, pk1_right⟩
theorem aok1 : NOk aM1 5 := ⟨by decide, by decide, by decide, row1, se1_ok⟩
theorem aok2 : NOk aM2 5 := ⟨by decide, by decide, by decide, fun x hx => row1 x (by simpa [aM2] using hx), se1_ok⟩
theorem aok3 : NOk aM3 5 := ⟨by decide, by decide, by decide, row1, se1_ok⟩
section
variable {w₀ w : World} {F : HP}
theorem ping_ok (h : Sat w₀ F w) : call Try.prog fn_tenonlaw23_ping #[] w fun v w' => v = .agg (pkF pkP (.slice none 0 0)) ∧ Sat w₀ F w' := by
  apply tenonlaw23_ping_call
  unfold tenonlaw23_ping
  exact new_ok h fun k w1 h1 => stPk (y := pkP) (q := none) (m := 0) (d := 0) h1 (pk_size (x := pk0) (v := .slice none 0 0) rfl) rfl fun w2 h2 => ldPk h2 rfl ⟨rfl, h2.right⟩
theorem tenonlaw23_awake_ok (h : Sat w₀ F w) : call Try.prog fn_tenonlaw23_awake #[] w fun v w' => v = .bool true ∧ Sat w₀ F w' := by
  apply tenonlaw23_awake_call
  unfold tenonlaw23_awake
  refine call_mono (net_New_ok (most := 4) h (by decide) (by decide)) ?_
  rintro _ w1 ⟨b, rfl, h1⟩
  refine ⟨_, _, rfl, call_mono (ping_ok h1) ?_⟩
  rintro _ w2 ⟨rfl, h2⟩
  refine asA_ok <| call_mono (net_Send_ok (M := aM0) (x := pkP) (p := none) (l := 0) (c := 0) (n := 5) h2 aok0 (by decide) pkP_in (fun _ _ _ => Rd.nil _ _ _) (by decide)) ?_
  rw [aw1]
  rintro _ w3 ⟨rfl, h3⟩
  refine ⟨_, _, rfl, call_mono (net_Double_ok (M := aM1) (i := 0) (n := 5) h3 aok1) ?_⟩
  rw [aw2]
  rintro _ w4 ⟨rfl, h4⟩
  refine asI_ok <| call_mono (net_Deliver_ok (M := aM2) (i := 0) (n := 5) h4 aok2) ?_
  rw [aw3]
  rintro _ w5 ⟨q, m, d, G, rfl, hm, hG, h5⟩
  refine ⟨_, _, _, rfl, new_ok h5 fun k15 w6 h6 => stPk h6 (pk_size (x := pk0) (v := .slice none 0 0) rfl) rfl fun w7 h7 => ?_⟩
  refine call_mono (net_Deliver_ok (M := aM3) (i := 0) (n := 5) (h7.perm (B := NetH b aM3 * (blk k15 (pkF pk1 (.slice q m d)) T_api_Packet * (G * F))) (by
    show blk k15 (pkF pk1 (.slice q m d)) T_api_Packet * (G * (NetH b aM3 * F)) = _
    ac_rfl)) aok3) ?_
  rw [aw4]
  rintro _ w8 ⟨q', m', d', G', rfl, hm', hG', h8⟩
  refine ⟨_, _, _, rfl, new_ok h8 fun k20 w9 h9 => stPk h9 (pk_size (x := pk0) (v := .slice none 0 0) rfl) rfl fun w10 h10 => ?_⟩
  refine br_true rfl <| br_true rfl <| br_true rfl <| br_true rfl <| br_true rfl <| br_true rfl <| br_true rfl ⟨rfl, ?_⟩
  exact h10.right.right.right.right.right
/-! ### none -/
theorem net_Len_nil : PureCall Try.prog fn_net_Net_Len #[.pointer none] (.int .i64 0) := by
  intro w
  apply net_Net_Len_call
  unfold net_Net_Len
  exact br_true rfl ⟨rfl, rfl⟩
theorem net_place_nil {i : Int} : PureCall Try.prog fn_net_Net_place #[.pointer none, .int .i64 i] (.tuple #[.int .i64 0, .int .i64 12]) := by
  intro w
  apply net_Net_place_call
  unfold net_Net_place
  exact call_pure net_Len_nil <| asI_ok <| br_true rfl ⟨rfl, rfl⟩
theorem net_Double_nil {i : Int} : PureCall Try.prog fn_net_Net_Double #[.pointer none, .int .i64 i] (.int .i64 12) := by
  intro w
  apply net_Net_Double_call
  unfold net_Net_Double
  exact call_pure net_place_nil ⟨_, _, rfl, br_true rfl ⟨rfl, rfl⟩⟩
theorem net_Send_nil {g : Array Value} (h : Sat w₀ F w) : call Try.prog fn_net_Net_Send #[.pointer none, .agg g] w fun v w' => v = .tuple #[.int .u64 0, .int .i64 3] ∧ Sat w₀ F w' := by
  apply net_Net_Send_call
  unfold net_Net_Send
  exact new_ok h fun k w1 h1 => br_true rfl ⟨rfl, h1.right⟩
theorem net_Lose_nil {i : Int} (h : Sat w₀ F w) : call Try.prog fn_net_Net_Lose #[.pointer none, .int .i64 i] w fun v w' => v = .tuple #[.agg (pkF pk0 (.slice none 0 0)), .int .i64 12] ∧ Sat w₀ F w' := by
  apply net_Net_Lose_call
  unfold net_Net_Lose
  exact new_ok h fun k w1 h1 => call_pure net_place_nil ⟨_, _, rfl, br_true rfl <| stPk (y := pk0) (q := none) (m := 0) (d := 0) h1 (pk_size (x := pk0) (v := .slice none 0 0) rfl) rfl fun w2 h2 => ldPk h2 rfl ⟨rfl, h2.right⟩⟩
theorem net_Deliver_nil {i : Int} (h : Sat w₀ F w) : call Try.prog fn_net_Net_Deliver #[.pointer none, .int .i64 i] w fun v w' => v = .tuple #[.agg (pkF pk0 (.slice none 0 0)), .bool false, .int .i64 12] ∧ Sat w₀ F w' := by
  apply net_Net_Deliver_call
  unfold net_Net_Deliver
  refine new_ok h fun k w1 h1 => call_mono (net_Lose_nil h1) ?_
  rintro _ w2 ⟨rfl, h2⟩
  exact ⟨_, _, rfl, stPk h2 (pk_size (x := pk0) (v := .slice none 0 0) rfl) rfl fun w3 h3 => br_true rfl <| ldPk h3 rfl <| stPk h3 (pk_size rfl) rfl fun w4 h4 => ldPk h4 rfl ⟨rfl, h4.right⟩⟩
theorem net_All_ok {x : Option Addr} (h : Sat w₀ F w) : call Try.prog fn_net_Net_All #[.pointer x] w fun v w' => ∃ k, v = .func (.func fn_net_Net_All_1) #[] #[.pointer (some ⟨k, 0, none⟩)] ∧ Sat w₀ (blk k #[.pointer x] 25 * F) w' := by
  apply net_Net_All_call
  unfold net_Net_All
  exact new_ok h fun k w1 h1 => ⟨k, rfl, h1⟩
theorem nAll_nil {k : Nat} {Pre : Nat → HP} (hP : ∀ w, Sat w₀ (Pre 0) w → Sat w₀ (blk k #[.pointer none] 25) w) :
    IterC Try.prog w₀ fn_net_Net_All_1 #[.pointer (some ⟨k, 0, none⟩)] Pre [] := by
  intro f b c B Bx hok hB hy F w h
  show call Try.prog _ #[.func f b c, .pointer (some ⟨k, 0, none⟩)] w _
  apply net_Net_All_1_call
  unfold net_Net_All_1
  exact ldP_ok ((hP _ (hB 0 _ h.left)).cell (i := 0) rfl) <| br_true rfl <| .inl h
theorem row_nil {most : Int} (h : Sat w₀ F w) : call Try.prog fn_tenonlaw23_row #[.pointer none, .int .i64 most] w fun v w' => v = .slice none 0 0 ∧ Sat w₀ F w' := by
  apply tenonlaw23_row_call
  unfold tenonlaw23_row
  refine new_ok h fun k1 w1 h1 => new_ok h1 fun k2 w2 h2 => call_mono (net_All_ok h2) ?_
  rintro _ w3 ⟨k, rfl, h3⟩
  refine asF_ok <| rangeC_ok ⟨w₀, fn_net_Net_All_1, _, [], fun _ => blk k #[.pointer none] 25 * (blk k2 #[.slice none 0 0] 29 * (blk k1 #[.int .i64 most] 3 * F)), fun _ => prop False,
    rfl, ⟨_, _, Try.func44, rfl⟩, h3, (fun z hz => by cases hz), nAll_nil fun w h => h.left, (fun j z hz => by simp at hz), fun D w8 h8 => ?_, fun D c w8 h8 => ?_⟩
  · have h8 : Sat w₀ (markH D * (blk k #[.pointer none] 25 * (blk k2 #[.slice none 0 0] 29 * (blk k1 #[.int .i64 most] 3 * F)))) w8 := h8
    refine ldS_ok (by have := cell_blk h8.right.right (i := 0) (v := .slice none 0 0) rfl; rwa [Sp.add_zero] at this) <| shutD_ok h8 fun w9 h9 => ⟨rfl, h9.right.right.right⟩
  · exact ((h8.perm (B := prop False * markH D) (by ac_rfl)).prop).elim
end
theorem NetNil_row {W : World} {i : Int} {v : Value} (h0 : -9223372036854775808 ≤ i ∧ i ≤ 9223372036854775807) (hv : PArg W v) :
    call Try.prog fn_tenonlaw23_NetNil #[.int .i64 i, v] W fun v w' => v = .bool true ∧ Below W.heap.size W w' := by
  obtain ⟨x, p, l, c, rfl, hx, _, _⟩ := hv
  apply tenonlaw23_NetNil_call
  unfold tenonlaw23_NetNil
  refine new_ok (Sat.start W) fun k1 w1 h1 => ?_
  have h1 : Sat W (blk k1 (pkF x (.slice p l c)) T_api_Packet * old W) w1 := h1
  refine ldPk h1 hx.ip <| call_mono (net_Send_nil h1) ?_
  rintro _ w2 ⟨rfl, h2⟩
  refine ⟨_, _, rfl, call_mono (net_Deliver_nil h2) ?_⟩
  rintro _ w3 ⟨rfl, h3⟩
  refine ⟨_, _, _, rfl, new_ok h3 fun k10 w4 h4 => stPk h4 (pk_size (x := pk0) (v := .slice none 0 0) rfl) rfl fun w5 h5 => call_mono (net_Lose_nil h5) ?_⟩
  rintro _ w6 ⟨rfl, h6⟩
  refine ⟨_, _, rfl, new_ok h6 fun k14 w7 h7 => stPk h7 (pk_size (x := pk0) (v := .slice none 0 0) rfl) rfl fun w8 h8 => ?_⟩
  refine br_true rfl <| br_true rfl <| br_true rfl <| br_true rfl <| br_true rfl <| call_pure net_Double_nil <| asI_ok <| br_true rfl <| call_pure net_Len_nil <| asI_ok <| br_true rfl <| call_mono (row_nil h8) ?_
  rintro _ w11 ⟨rfl, h11⟩
  refine asS_ok <| br_true rfl <| call_mono (tenonlaw23_awake_ok h11) ?_
  rintro _ w12 ⟨rfl, h12⟩
  exact asB_ok ⟨rfl, h12.right.right.right.below'⟩
end Go.Proofs.Ytjjnbcdcppnllaa
