/- HeapNil: a heap that is none; the walk. No conditions. -/
import Derived.Test.YtgchemgnmijpdaaH10
import Derived.Test.YtgchemgnmijpdaaOp
set_option linter.unusedVariables false
set_option linter.unusedSimpArgs false
set_option maxRecDepth 100000
namespace Go.Proofs.Ytgchemgnmijpdaa
open Go.Sp Go.RowKit

def markD (D : Nat) : Deferred := { target := .collected D, args := #[] }
section
variable {w₀ w : World} {F : HP}
def marksH : List Nat → HP
  | [] => emp
  | D :: Ds => markH D * marksH Ds
theorem marksW_ok : ∀ {Ds : List Nat} {w : World} {K : World → Prop}, Sat w₀ (marksH Ds * F) w → (∀ w', Sat w₀ F w' → K w') → marksW (Ds.map markD) w K
  | [], w, K, h, hk => hk w h.right
  | D :: Ds, w, K, h, hk => by
    have h1 : Sat w₀ (markH D * (marksH Ds * F)) w := h.perm (by rw [marksH]; ac_rfl)
    exact shutD_ok h1 fun w' h2 => marksW_ok h2 hk
theorem hwhole_nil {h : Int} : PureCall Try.prog fn_heap_Heap_whole #[.pointer none, .int .u64 h] (.tuple #[.pointer none, .int .i64 2]) := by
  intro w
  apply heap_Heap_whole_call
  unfold heap_Heap_whole
  exact call_pure heap_Whole_nil ⟨_, _, rfl, br_true rfl ⟨rfl, rfl⟩⟩
theorem heap_Up_nil {h : Int} : PureCall Try.prog fn_heap_Heap_Up #[.pointer none, .int .u64 h] (.tuple #[.int .u32 0, .int .i64 2]) := by
  intro w
  apply heap_Heap_Up_call
  unfold heap_Heap_Up
  exact call_pure hwhole_nil ⟨_, _, rfl, br_true rfl ⟨rfl, rfl⟩⟩
theorem heap_Count_nil {h : Int} : PureCall Try.prog fn_heap_Heap_Count #[.pointer none, .int .u64 h] (.int .u32 0) := by
  intro w
  apply heap_Heap_Count_call
  unfold heap_Heap_Count
  exact call_pure hwhole_nil ⟨_, _, rfl, br_false rfl ⟨rfl, rfl⟩⟩
theorem heap_Down_nil {h : Int} : PureCall Try.prog fn_heap_Heap_Down #[.pointer none, .int .u64 h] (mk3 2 none 0 0 none 0 0) := by
  intro w
  apply heap_Heap_Down_call
  unfold heap_Heap_Down
  exact call_pure hfind_nil ⟨_, _, rfl, br_true rfl ⟨rfl, rfl⟩⟩
theorem heap_Put_nil {h slot : Int} {x : Int × Int} (hh : Sat w₀ F w) : call Try.prog fn_heap_Heap_Put #[.pointer none, .int .u64 h, .int .i64 slot, .agg (lnA x)] w fun v w' => v = mk3 2 none 0 0 none 0 0 ∧ Sat w₀ F w' := by
  apply heap_Heap_Put_call
  unfold heap_Heap_Put
  exact new_ok hh fun k w1 h1 => call_pure hfind_nil ⟨_, _, rfl, br_true rfl ⟨rfl, h1.right⟩⟩
theorem heap_Value_nil {h : Int} : PureCall Try.prog fn_heap_Heap_Value #[.pointer none, .int .u64 h] (.tuple #[.int .i64 0, .int .i64 2]) := by
  intro w
  apply heap_Heap_Value_call
  unfold heap_Heap_Value
  exact call_pure hfind_nil ⟨_, _, rfl, br_true rfl ⟨rfl, rfl⟩⟩
theorem heap_Store_nil {h n : Int} : PureCall Try.prog fn_heap_Heap_Store #[.pointer none, .int .u64 h, .int .i64 n] (.int .i64 2) := by
  intro w
  apply heap_Heap_Store_call
  unfold heap_Heap_Store
  exact call_pure hfind_nil ⟨_, _, rfl, br_false rfl ⟨rfl, rfl⟩⟩
theorem heap_Remove_nil {k : Nat} {h : Int} (hh : Sat w₀ (blk k #[.int .u64 h] 29 * F) w) : call Try.prog fn_heap_Heap_Remove #[.pointer none, .slice (some ⟨k, 0, none⟩) 1 1] w fun v w' => v = mk3 2 none 0 0 none 0 0 ∧ Sat w₀ F w' := by
  apply heap_Heap_Remove_call
  unfold heap_Heap_Remove
  refine newM_ok (fun x : Int => Value.int .u64 x) (fun _ : Unit => Value.agg #[]) (fun _ => True) hh fun k1 w1 h1 => ?_
  have h1 : Sat w₀ (seenH k1 (fun _ => none) * (blk k #[.int .u64 h] 29 * F)) w1 := h1
  refine ⟨fun n w m => n = 0 ∧ Sat w₀ (seenH k1 (fun _ => none) * (blk k #[.int .u64 h] 29 * F)) w, ⟨0, rfl, h1⟩, ?_⟩
  rintro u n w2 m ⟨rfl, h2⟩
  have rd : Rd w2 1 (some ⟨k, 0, none⟩) 1 [.int .u64 h] := h2.right.left.rd_ob (sz := 1) (l := 1) rfl
  refine br_dec (fun _ => ?_) (fun hn => absurd (by decide : (0 : Int) < ((1 : Nat) : Int)) hn)
  exact idx_ok rd (by decide) (by decide) fun ad had => ldI_ok (n := h) (rd.get had (j := 0) rfl) <| call_pure hfind_nil ⟨_, _, rfl, br_true rfl ⟨rfl, h2.right.right⟩⟩
theorem heap_links_nil {h : Int} {most : Int} (hh : Sat w₀ F w) :
    call Try.prog fn_tenonlaw11_links #[.pointer none, .int .u64 h, .int .i64 most] w fun v w' => ∃ p c, v = .slice p 0 c ∧ Sat w₀ F w' := by
  refine call_mono (links_any (Q := emp) (ps := []) (by simp) (fun k k' Pre hP hP' hQ => hLinks_none hP hP' fun w F hb => call_pure hfind_nil ⟨rfl, rfl⟩) hh.with_emp) ?_
  rintro _ w1 ⟨p, m, c, rfl, hm, h1⟩
  have : m = 0 := by simpa using hm
  subst this
  exact ⟨p, c, rfl, h1.right.right⟩
theorem Graph_nil (hh : Sat w₀ F w) : call Try.prog fn_heap_Heap_Graph #[.pointer none] w fun v w' => v = .tuple #[.agg #[.slice none 0 0, .slice none 0 0], .slice none 0 0] ∧ Sat w₀ F w' := by
  apply heap_Heap_Graph_call
  unfold heap_Heap_Graph
  refine new_ok hh fun k1 w1 h1 => new_ok h1 fun k2 w2 h2 => new_ok h2 fun k3 w3 h3 => newM_ok (fun x : Int => Value.int .u64 x) (fun x : Int => Value.int .i64 x) (fun _ => True) h3 fun k4 w4 h4 => new_ok h4.right fun k5 w5 h5 => ?_
  refine st_ok (i := 0) h5 (by simp) fun w6 h6 => ?_
  have h6 : Sat w₀ (blk k1 #[.pointer none] 23 * (blk k3 #[.slice none 0 0] 28 * (blk k2 #[.slice none 0 0, .slice none 0 0] 61 * F))) w6 := h6.right.perm (by ac_rfl)
  refine ldP_ok (h6.left.cell (i := 0) rfl) <| call_mono (heap_All_ok h6) ?_
  rintro _ w7 ⟨k, rfl, h7⟩
  refine asF_ok ⟨w₀, fn_heap_Heap_All_1, _, [], fun _ => blk k #[.pointer none] 23 * (blk k1 #[.pointer none] 23 * (blk k3 #[.slice none 0 0] 28 * (blk k2 #[.slice none 0 0, .slice none 0 0] 61 * F))), fun _ => prop False,
    rfl, ⟨_, _, Try.func58, rfl⟩, h7, (fun z hz => by cases hz), hAll_nil fun w h => h.left, (fun j z hz => by simp at hz), fun D w8 h8 => ?_, fun D c w8 h8 => ?_⟩
  · have h8 : Sat w₀ (markH D * (blk k #[.pointer none] 23 * (blk k1 #[.pointer none] 23 * (blk k3 #[.slice none 0 0] 28 * (blk k2 #[.slice none 0 0, .slice none 0 0] 61 * F))))) w8 := h8
    refine new_ok h8 fun k24 w9 h9 => ?_
    have h9 : Sat w₀ (blk k3 #[.slice none 0 0] 28 * (blk k2 #[.slice none 0 0, .slice none 0 0] 61 * (blk k24 #[.slice none 0 0, .slice none 0 0] 61 * (marksH [D] * F)))) w9 :=
      (h9.perm (B := (blk k #[.pointer none] 23 * blk k1 #[.pointer none] 23) * (blk k3 #[.slice none 0 0] 28 * (blk k2 #[.slice none 0 0, .slice none 0 0] 61 * (blk k24 #[.slice none 0 0, .slice none 0 0] 61 * (markH D * F))))) (by ac_rfl)).right |>.with_emp.perm (by rw [marksH, marksH]; ac_rfl)
    refine ldS_ok (h9.left.cell (i := 0) rfl) ⟨fun n ds w m => ds = [D].map markD ∧ Sat w₀ (blk k3 #[.slice none 0 0] 28 * (blk k2 #[.slice none 0 0, .slice none 0 0] 61 * (blk k24 #[.slice none 0 0, .slice none 0 0] 61 * (marksH [D] * F)))) w ∧ 0 ≤ n, ⟨0, rfl, h9, by decide⟩, ?_⟩
    rintro u ds n w10 m ⟨rfl, h10, n0⟩
    refine br_dec (fun hlt => absurd hlt (by simp; omega)) (fun _ => ?_)
    have h10 := h10.drew
    refine ldA_blk0 h10.right.right rfl <| ldS_ok (h10.left.cell (i := 0) rfl) <| stA_ok (h10.perm (B := blk k2 #[.slice none 0 0, .slice none 0 0] 61 * (blk k3 #[.slice none 0 0] 28 * (blk k24 #[.slice none 0 0, .slice none 0 0] 61 * (marksH [D] * F)))) (by ac_rfl)) rfl rfl (by simp [Value.oneCell']) fun w11 h11 => ⟨cell_blk h11.right (i := 0) rfl, ?_⟩
    refine marksW_ok (h11.perm (B := marksH [D] * (blk k2 #[.slice none 0 0, .slice none 0 0] 61 * (blk k3 #[.slice none 0 0] 28 * (blk k24 #[.slice none 0 0, .slice none 0 0] 61 * F)))) (by ac_rfl)) fun w12 h12 => ?_
    exact ldA_blk0 h12 rfl ⟨rfl, h12.right.right.right⟩
  · exact ((h8.perm (B := prop False * markH D) (by ac_rfl)).prop).elim
end
end Go.Proofs.Ytgchemgnmijpdaa
