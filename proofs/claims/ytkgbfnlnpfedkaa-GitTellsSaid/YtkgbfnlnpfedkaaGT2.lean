/- Contracts of layer 19 (git): going over, finding, the document's example. No conditions. -/
import Derived.Test.YtkgbfnlnpfedkaaGT1
set_option linter.unusedVariables false
set_option linter.unusedSimpArgs false
set_option maxRecDepth 100000
namespace Go.Proofs.Ytkgbfnlnpfedkaa
open Go.Sp Go.RowKit

def pairO (p : Nat × Spot GE) : Int × OR := (hd p.1 p.2.g, p.2.x.2)
def encO (p : Int × OR) : Array Value := #[.int .u64 p.1, .agg (orF p.2.1)]
theorem git_All_ok {w₀ w : World} {F : HP} {x : Option Addr} (h : Sat w₀ F w) :
    call Try.prog fn_git_Table_All #[.pointer x] w fun v w' => ∃ k t, v = .func (.func fn_git_Table_All_1) #[] #[.pointer (some ⟨k, 0, none⟩)] ∧ Sat w₀ (blk k #[.pointer x] t * F) w' := by
  apply git_Table_All_call
  unfold git_Table_All
  exact new_ok h fun k w1 h1 => ⟨k, _, rfl, h1⟩
theorem gAll_nil {w₀ : World} {k t : Nat} {Pre : HP} (hP : ∀ w, Sat w₀ Pre w → Sat w₀ (blk k #[.pointer none] t) w) :
    IterC Try.prog w₀ fn_git_Table_All_1 #[.pointer (some ⟨k, 0, none⟩)] Pre [] := by
  intro f b c B Bx hok hB hy F w h
  show call Try.prog _ #[.func f b c, .pointer (some ⟨k, 0, none⟩)] w _
  apply git_Table_All_1_call
  unfold git_Table_All_1
  exact new_ok h fun k1 w1 h1 => ldP_ok ((hP _ (hB _ h1.right.left)).cell (i := 0) rfl) <| br_true rfl <| .inl h1.right
theorem gAll_iter {w₀ : World} {k b a t : Nat} {s : AS GE} {Pre : HP} (hs : AOk s) (hP : ∀ w, Sat w₀ Pre w → Sat w₀ (blk k #[.pointer (some ⟨b, 0, none⟩)] t) w) (hG : ∀ w, Sat w₀ Pre w → Sat w₀ (Gt b a s) w) :
    IterC Try.prog w₀ fn_git_Table_All_1 #[.pointer (some ⟨k, 0, none⟩)] Pre ((liveFrom 0 s.sp).map fun p => encO (pairO p)) := by
  intro f f2 f3 B Bx hok hB hy F w h
  show call Try.prog _ #[.func f f2 f3, .pointer (some ⟨k, 0, none⟩)] w _
  apply git_Table_All_1_call
  unfold git_Table_All_1
  refine new_ok h fun k1 w1 h1 => ldP_ok ((hP _ (hB _ h1.right.left)).cell (i := 0) rfl) <| br_false rfl <| ldP_ok ((hP _ (hB _ h1.right.left)).cell (i := 0) rfl) <| nn_ok <| ldP_ok ((hG _ (hB _ h1.right.left)).left.cell (i := 0) rfl) <| call_mono (arena_All_ok h1) ?_
  rintro _ w4 ⟨kk, t2, rfl, h4⟩
  refine asF_ok ⟨w₀, fn_arena_Arena_All_1, _, (liveFrom 0 s.sp).map fun p => enc2 (pairOf p), fun j => blk kk #[.pointer (some ⟨a, 0, none⟩)] t2 * (blk k1 #[.func f f2 f3] 110 * (B j * F)), fun c => prop (c = .ret) * (Bx * F), rfl, ⟨_, _, Try.func37, rfl⟩, h4, ?_,
    All_iter (a := a) (t := t2) hs (fun w h => h.left) (fun w h => (hG _ (hB _ h.right.right.left)).right), ?_, ?_, ?_⟩
  · intro x hx
    obtain ⟨y, _, rfl⟩ := List.mem_map.1 hx
    rfl
  · intro j x hx G G' T w5 hT h5
    rw [List.getElem?_map] at hx
    obtain ⟨y, hy0, rfl⟩ := Option.map_eq_some_iff.1 hx
    refine ⟨_, _, rfl, new_ok h5 fun k16 w6 h6 => stA_ok h6 rfl (geF_size y.2.x) (geF_oneA y.2.x) fun w7 h7 => hT (blk k16 (geF y.2.x).toArray 72 * (blk kk #[.pointer (some ⟨a, 0, none⟩)] t2 * (blk k1 #[.func f f2 f3] 110 * (B j * F)))) _ _ (h7.perm (by dsimp only [pairOf]; ac_rfl)) fun w8 h8 => ?_⟩
    have h9 := h8.perm (B := blk k16 (geF y.2.x).toArray 72 * (blk k1 #[.func f f2 f3] 110 * (blk kk #[.pointer (some ⟨a, 0, none⟩)] t2 * (B j * (F * G'))))) (by ac_rfl)
    refine ldF_ok (h9.right.left.cell (i := 0) rfl) <| ldA_blk (o := 1) (n := 36) h9 (by simp [geF_len]) ?_
    rw [geF_or]
    refine callV_mono (hy j (encO (pairO y)) (by rw [List.getElem?_map, hy0]; rfl) (blk k16 (geF y.2.x).toArray 72 * (blk k1 #[.func f f2 f3] 110 * (blk kk #[.pointer (some ⟨a, 0, none⟩)] t2 * (F * G')))) _ (h9.perm (by ac_rfl))) ?_
    rintro v w9 (⟨rfl, h10⟩ | ⟨rfl, h10⟩)
    · exact asB_ok <| br_false rfl <| (h10.perm (B := blk k16 (geF y.2.x).toArray 72 * ((blk kk #[.pointer (some ⟨a, 0, none⟩)] t2 * (blk k1 #[.func f f2 f3] 110 * (B (j + 1) * F))) * G')) (by ac_rfl)).right
    · exact asB_ok <| br_true rfl <| ((h10.perm (B := (blk k16 (geF y.2.x).toArray 72 * (blk kk #[.pointer (some ⟨a, 0, none⟩)] t2 * blk k1 #[.func f f2 f3] 110)) * ((Bx * F) * G')) (by ac_rfl)).right.add_prop (p := Code.ret = Code.ret) rfl).perm (by first | ac_rfl | (dsimp only; ac_rfl))
  · intro D w5 h5
    rw [List.length_map] at h5 ⊢
    exact shutD_ok h5 fun w' h6 => .inl h6.right.right
  · intro D c w5 h5
    have h5 := h5.perm (B := prop (c = .ret) * (markH D * (Bx * F))) (by first | ac_rfl | (dsimp only; ac_rfl))
    obtain rfl := h5.prop
    exact jmp_ret <| shutD_ok h5.right fun w' h6 => .inr h6

theorem some_ok {w₀ w : World} {F : HP} (h : Sat w₀ F w) : call Try.prog fn_tenonlaw19_some #[] w fun v w' => v = .agg (orF ⟨1, 0, 0, 5, List.replicate 32 0⟩) ∧ Sat w₀ F w' := by
  apply tenonlaw19_some_call
  unfold tenonlaw19_some
  refine new_ok h fun k w1 h1 => stA_ok h1 rfl rfl (fun u hu => orF_oneA ⟨⟨1, 0, 0, 5, List.replicate 32 0⟩, ⟨by decide, by decide, by decide, by decide, by decide, by decide⟩⟩ u hu) fun w2 h2 => ldA_blk0 h2 rfl ⟨rfl, h2.right⟩
def orS : OR := ⟨⟨1, 0, 0, 5, List.replicate 32 0⟩, ⟨by decide, by decide, by decide, by decide, by decide, by decide⟩⟩

/-! ### gathering, finding: of whatever iterator -/
def HT (k1 k2 k3 : Nat) (most : Int) (ps : List (Int × OR)) (Q : HP) (j : Nat) : HP := ex fun p => ex fun c => ex fun q => ex fun d =>
  prop ((j : Int) ≤ max most 0) * (blk k1 #[.int .i64 most] T_int * (blk k2 #[.slice p j c] T_sl_uint64 * (blk k3 #[.slice q j d] T_sl_api_Objref * (tab T_uint64 1 fU64 p j c ((ps.take j).map Prod.fst) * (tab T_api_Objref 36 orC q j d ((ps.take j).map Prod.snd) * Q)))))
section
variable {w₀ w : World} {k1 k2 k3 : Nat} {most : Int} {ps : List (Int × OR)} {Q F : HP} {j : Nat}
theorem HT.open_ (h : Sat w₀ (HT k1 k2 k3 most ps Q j * F) w) : (j : Int) ≤ max most 0 ∧ ∃ p c q d, Sat w₀ (blk k1 #[.int .i64 most] T_int * (blk k2 #[.slice p j c] T_sl_uint64 * (blk k3 #[.slice q j d] T_sl_api_Objref * (tab T_uint64 1 fU64 p j c ((ps.take j).map Prod.fst) * (tab T_api_Objref 36 orC q j d ((ps.take j).map Prod.snd) * (Q * F)))))) w := by
  obtain ⟨p, h⟩ := Sat.ex h
  obtain ⟨c, h⟩ := Sat.ex h
  obtain ⟨q, h⟩ := Sat.ex h
  obtain ⟨d, h⟩ := Sat.ex h
  have h := h.perm (B := prop ((j : Int) ≤ max most 0) * (blk k1 #[.int .i64 most] T_int * (blk k2 #[.slice p j c] T_sl_uint64 * (blk k3 #[.slice q j d] T_sl_api_Objref * (tab T_uint64 1 fU64 p j c ((ps.take j).map Prod.fst) * (tab T_api_Objref 36 orC q j d ((ps.take j).map Prod.snd) * (Q * F))))))) (by ac_rfl)
  exact ⟨h.prop, p, c, q, d, h.right⟩
theorem HT.shut {p q : Option Addr} {c d : Nat} (hj : (j : Int) ≤ max most 0) (h : Sat w₀ (blk k1 #[.int .i64 most] T_int * (blk k2 #[.slice p j c] T_sl_uint64 * (blk k3 #[.slice q j d] T_sl_api_Objref * (tab T_uint64 1 fU64 p j c ((ps.take j).map Prod.fst) * (tab T_api_Objref 36 orC q j d ((ps.take j).map Prod.snd) * (Q * F)))))) w) :
    Sat w₀ (HT k1 k2 k3 most ps Q j * F) w :=
  Sat.to_ex p (Sat.to_ex c (Sat.to_ex q (Sat.to_ex d ((h.add_prop hj).perm (by ac_rfl)))))
end
theorem told_ok {w₀ w : World} {F Q : HP} {x0 : Option Addr} {ps : List (Int × OR)} {most : Int} (hn : ps.length ≤ 65536)
    (hit : ∀ k t Pre, (∀ w, Sat w₀ Pre w → Sat w₀ (blk k #[.pointer x0] t) w) → (∀ w, Sat w₀ Pre w → Sat w₀ Q w) → IterC Try.prog w₀ fn_git_Table_All_1 #[.pointer (some ⟨k, 0, none⟩)] Pre (ps.map encO))
    (h : Sat w₀ (Q * F) w) :
    call Try.prog fn_tenonlaw19_told #[.pointer x0, .int .i64 most] w fun v w' => ∃ p m c q d, v = .tuple #[.slice p m c, .slice q m d] ∧ m = min ps.length most.toNat ∧
      Sat w₀ (tab T_uint64 1 fU64 p m c ((ps.take m).map Prod.fst) * (tab T_api_Objref 36 orC q m d ((ps.take m).map Prod.snd) * (Q * F))) w' := by
  apply tenonlaw19_told_call
  unfold tenonlaw19_told
  refine new_ok h fun k1 w1 h1 => new_ok h1 fun k2 w2 h2 => new_ok h2 fun k3 w3 h3 => call_mono (git_All_ok h3) ?_
  rintro _ w4 ⟨k, t, rfl, h4⟩
  have fin : ∀ {j D w}, Sat w₀ (markH D * HT k1 k2 k3 most ps (blk k #[.pointer x0] t * (Q * F)) j) w → j = min ps.length most.toNat →
      ldS (⟨k2, 0, none⟩ : Addr) w.drew fun p20 l20 c20 => ldS (⟨k3, 0, none⟩ : Addr) w.drew fun p21 l21 c21 => shutD D w.drew fun w13 =>
        (fun v w' => ∃ p m c q d, v = Value.tuple #[.slice p m c, .slice q m d] ∧ m = min ps.length most.toNat ∧
          Sat w₀ (tab T_uint64 1 fU64 p m c ((ps.take m).map Prod.fst) * (tab T_api_Objref 36 orC q m d ((ps.take m).map Prod.snd) * (Q * F))) w') (Value.tuple #[.slice p20 l20 c20, .slice p21 l21 c21]) w13 := by
    intro j D w h5 hj
    obtain ⟨hjm, p, c, q, d, h6⟩ := HT.open_ (h5.e1)
    have h6 := h6.drew
    refine ldS_ok (h6.right.left.cell (i := 0) rfl) <| ldS_ok (h6.right.right.left.cell (i := 0) rfl) ?_
    have h7 := h6.perm (B := markH D * ((blk k1 #[.int .i64 most] T_int * (blk k2 #[.slice p j c] T_sl_uint64 * (blk k3 #[.slice q j d] T_sl_api_Objref * blk k #[.pointer x0] t))) * (tab T_uint64 1 fU64 p j c ((ps.take j).map Prod.fst) * (tab T_api_Objref 36 orC q j d ((ps.take j).map Prod.snd) * (Q * F))))) (by ac_rfl)
    exact shutD_ok h7 fun w' h8 => ⟨p, j, c, q, d, rfl, hj, h8.right⟩
  have hA0 : Sat w₀ (HT k1 k2 k3 most ps (blk k #[.pointer x0] t * (Q * F)) 0 * emp) w4 :=
    HT.shut (p := none) (c := 0) (q := none) (d := 0) (by simp; omega) ((tab_nil T_uint64 1 fU64 (tab_nil T_api_Objref 36 orC (h4.with_emp))).perm (by simp only [List.take_zero, List.map_nil]; ac_rfl))
  refine asF_ok ⟨w₀, fn_git_Table_All_1, _, ps.map encO, HT k1 k2 k3 most ps (blk k #[.pointer x0] t * (Q * F)), fun c => ex fun j => prop (c = .exit 0 ∧ j = min ps.length most.toNat) * HT k1 k2 k3 most ps (blk k #[.pointer x0] t * (Q * F)) j,
    rfl, ⟨_, _, Try.func43, rfl⟩, hA0.left, ?_, hit k t _ (fun w h => ?_) (fun w h => ?_), ?_, ?_, ?_⟩
  · intro x hx
    obtain ⟨y, _, rfl⟩ := List.mem_map.1 hx
    rfl
  · obtain ⟨_, p, c, q, d, h⟩ := HT.open_ (h.with_emp.e1)
    exact h.right.right.right.right.right.left.left
  · obtain ⟨_, p, c, q, d, h⟩ := HT.open_ (h.with_emp.e1)
    exact h.right.right.right.right.right.left.right.left
  · intro j x hx G G' T w5 hT h5
    rw [List.getElem?_map] at hx
    obtain ⟨y, hy, rfl⟩ := Option.map_eq_some_iff.1 hx
    have hlt := (List.getElem?_eq_some_iff.1 hy).1
    refine ⟨_, _, rfl, new_ok h5 fun k12 w6 h6 => stA_ok h6 rfl (orF_sz y.2) (orF_oneA y.2) fun w7 h7 => hT (blk k12 (orF y.2.1) 34 * HT k1 k2 k3 most ps (blk k #[.pointer x0] t * (Q * F)) j) _ _ (h7.perm (by ac_rfl)) fun w8 h8 => ?_⟩
    obtain ⟨hjm, p, c, q, d, h6⟩ := HT.open_ (h8.perm (B := HT k1 k2 k3 most ps (blk k #[.pointer x0] t * (Q * F)) j * (blk k12 (orF y.2.1) 34 * G')) (by ac_rfl))
    refine ldS_ok (h6.right.left.cell (i := 0) rfl) <| ldI_ok (h6.left.cell (i := 0) rfl) <| br_dec (fun hge => ?_) (fun hlt2 => ?_)
    · have hj : j = min ps.length most.toNat := by omega
      exact Sat.to_ex j ((((HT.shut (Q := blk k #[.pointer x0] t * (Q * F)) hjm h6).add_prop (p := Code.exit 0 = Code.exit 0 ∧ j = min ps.length most.toNat) ⟨rfl, hj⟩).perm (B := blk k12 (orF y.2.1) 34 * ((prop (Code.exit 0 = Code.exit 0 ∧ j = min ps.length most.toNat) * HT k1 k2 k3 most ps (blk k #[.pointer x0] t * (Q * F)) j) * G')) (by ac_rfl)).right)
    · have e2 : ps.take (j + 1) = ps.take j ++ [y] := by rw [List.take_add_one, hy]; rfl
      refine ldS_ok (h6.right.left.cell (i := 0) rfl) <| new_ok h6 fun k4 w7 h7 => ?_
      refine tab_app u64sTy fU64_len (by decide) fU64_one (x := y.1) (h7.perm (B := _ * (tab T_uint64 1 fU64 p j c ((ps.take j).map Prod.fst) * (blk k2 #[.slice p j c] T_sl_uint64 * (blk k1 #[.int .i64 most] T_int * (blk k3 #[.slice q j d] T_sl_api_Objref * (tab T_api_Objref 36 orC q j d ((ps.take j).map Prod.snd) * (blk k #[.pointer x0] t * (Q * F) * (blk k12 (orF y.2.1) 34 * G')))))))) (by ac_rfl)) rfl (by simp only [maxLen]; omega) (by omega) fun p' c' w8 h8 => ?_
      refine st_ok (i := 0) h8.p1 (by simp) fun w9 h9 => ?_
      have h9 := h9.perm (B := blk k12 (orF y.2.1) 34 * (blk k3 #[.slice q j d] T_sl_api_Objref * (tab T_api_Objref 36 orC q j d ((ps.take j).map Prod.snd) * (blk k2 #[.slice p' (j + 1) c'] T_sl_uint64 * (tab T_uint64 1 fU64 p' (j + 1) c' ((ps.take j).map Prod.fst ++ [y.1]) * (blk k1 #[.int .i64 most] T_int * (blk k #[.pointer x0] t * (Q * F) * G'))))))) (by
        show blk k2 #[.slice p' (j + 1) c'] T_sl_uint64 * _ = _
        ac_rfl)
      refine ldS_ok (h9.right.left.cell (i := 0) rfl) <| ldA_blk0 h9 (orF_sz y.2) ⟨orF_sz y.2, new_ok h9.right fun k5 w10 h10 => ?_⟩
      refine tab_app orsTy orC_len (by decide) orC_one (x := y.2) (h10.perm (B := _ * (tab T_api_Objref 36 orC q j d ((ps.take j).map Prod.snd) * (blk k3 #[.slice q j d] T_sl_api_Objref * (blk k2 #[.slice p' (j + 1) c'] T_sl_uint64 * (tab T_uint64 1 fU64 p' (j + 1) c' ((ps.take j).map Prod.fst ++ [y.1]) * (blk k1 #[.int .i64 most] T_int * (blk k #[.pointer x0] t * (Q * F) * G'))))))) (by ac_rfl)) (orC_arr _).symm (by simp only [maxLen]; omega) (by omega) fun q' d' w11 h11 => ?_
      refine st_ok (i := 0) h11.p1 (by simp) fun w12 h12 => ?_
      refine HT.shut (p := p') (c := c') (q := q') (d := d') (by omega) (h12.perm ?_)
      rw [e2, List.map_append, List.map_append]
      show blk k3 #[.slice q' (j + 1) d'] T_sl_api_Objref * (tab T_api_Objref 36 orC q' (j + 1) d' ((ps.take j).map Prod.snd ++ [y.2]) * _) = _
      simp only [List.map_cons, List.map_nil]
      ac_rfl
  · intro D w5 h5
    rw [List.length_map] at h5
    obtain ⟨hjm, _⟩ := HT.open_ (h5.e1)
    exact fin h5 (by omega)
  · intro D c w5 h5
    have h5 := h5.e1
    obtain ⟨j, h5⟩ := Sat.ex h5
    obtain ⟨rfl, hj⟩ := (h5.perm (B := prop (c = .exit 0 ∧ j = min ps.length most.toNat) * (HT k1 k2 k3 most ps (blk k #[.pointer x0] t * (Q * F)) j * markH D)) (by ac_rfl)).prop
    have h6 : Sat w₀ (markH D * HT k1 k2 k3 most ps (blk k #[.pointer x0] t * (Q * F)) j) w5 := (h5.perm (B := prop (Code.exit 0 = .exit 0 ∧ j = min ps.length most.toNat) * (markH D * HT k1 k2 k3 most ps (blk k #[.pointer x0] t * (Q * F)) j)) (by ac_rfl)).right
    exact jmp_exit (fin h6 hj)

/-- The first one that is so. -/
def firstIs (x : OR) (ps : List (Int × OR)) : Int × Bool := match ps.find? (fun p => decide (p.2 = x)) with | some p => (p.1, true) | none => (0, false)
theorem git_Find_ok {w₀ w : World} {F Q : HP} {x0 : Option Addr} {ps : List (Int × OR)} {x : OR}
    (hit : ∀ k t Pre, (∀ w, Sat w₀ Pre w → Sat w₀ (blk k #[.pointer x0] t) w) → (∀ w, Sat w₀ Pre w → Sat w₀ Q w) → IterC Try.prog w₀ fn_git_Table_All_1 #[.pointer (some ⟨k, 0, none⟩)] Pre (ps.map encO))
    (h : Sat w₀ (Q * F) w) :
    call Try.prog fn_git_Table_Find #[.pointer x0, .agg (orF x.1)] w fun v w' => v = .tuple #[.int .u64 (firstIs x ps).1, .bool (firstIs x ps).2] ∧ Sat w₀ (Q * F) w' := by
  apply git_Table_Find_call
  unfold git_Table_Find
  refine new_ok h fun k1 w1 h1 => new_ok h1 fun k2 w2 h2 => new_ok h2 fun k3 w3 h3 => st_ok (i := 0) h3.p1 (by simp) fun w4 h4 => st_ok (i := 0) h4.p1 (by simp) fun w5 h5 => call_mono (git_All_ok h5) ?_
  rintro _ w6 ⟨k, t, rfl, h6⟩
  have h6 : Sat w₀ (blk k #[.pointer x0] t * (blk k3 #[.bool false] 4 * (blk k2 #[.int .u64 0] 27 * (blk k1 (orF x.1) 34 * (Q * F))))) w6 := h6
  let A : Nat → HP := fun j => prop (∀ p ∈ ps.take j, p.2 ≠ x) * (blk k #[.pointer x0] t * (blk k3 #[.bool false] 4 * (blk k2 #[.int .u64 0] 27 * (blk k1 (orF x.1) 34 * (Q * F)))))
  refine asF_ok ⟨w₀, fn_git_Table_All_1, _, ps.map encO, A, fun c => ex fun p => prop (c = .exit 0 ∧ ps.find? (fun p => decide (p.2 = x)) = some p) * (blk k3 #[.bool true] 4 * (blk k2 #[.int .u64 p.1] 27 * (Q * F))),
    rfl, ⟨_, _, Try.func43, rfl⟩, h6.add_prop (by simp), ?_, hit k t _ (fun w h => h.right.left) (fun w h => h.right.right.right.right.right.left), ?_, ?_, ?_⟩
  · intro x hx
    obtain ⟨y, _, rfl⟩ := List.mem_map.1 hx
    rfl
  · intro j z hz G G' T w5 hT h5
    rw [List.getElem?_map] at hz
    obtain ⟨y, hy, rfl⟩ := Option.map_eq_some_iff.1 hz
    have hlt := (List.getElem?_eq_some_iff.1 hy).1
    have e2 : ps.take (j + 1) = ps.take j ++ [y] := by rw [List.take_add_one, hy]; rfl
    refine ⟨_, _, rfl, new_ok h5 fun k12 w6 h6 => stA_ok h6 rfl (orF_sz y.2) (orF_oneA y.2) fun w7 h7 => hT (blk k12 (orF y.2.1) 34 * A j) _ _ (h7.perm (by ac_rfl)) fun w8 h8 => ?_⟩
    have h9 := h8.perm (B := prop (∀ p ∈ ps.take j, p.2 ≠ x) * (blk k12 (orF y.2.1) 34 * (blk k1 (orF x.1) 34 * (blk k2 #[.int .u64 0] 27 * (blk k3 #[.bool false] 4 * (blk k #[.pointer x0] t * (Q * F) * G')))))) (by simp only [A]; ac_rfl)
    have hno := h9.prop
    have h9 := h9.right
    refine ldA_blk0 h9 (orF_sz y.2) <| ldA_blk0 h9.right (orF_sz x) <| or_eq <| br_dec (fun he => ?_) (fun hne => ?_)
    · refine st_ok (i := 0) (h9.perm (B := blk k2 #[.int .u64 0] 27 * (blk k3 #[.bool false] 4 * ((Q * F) * (blk k12 (orF y.2.1) 34 * (blk k1 (orF x.1) 34 * (blk k #[.pointer x0] t * G')))))) (by ac_rfl)) (by simp) fun w11 h11 => st_ok (i := 0) h11.p1 (by simp) fun w12 h12 => ?_
      have hfind : ps.find? (fun p => decide (p.2 = x)) = some y := by
        have e3 : ps = ps.take j ++ y :: ps.drop (j + 1) := by
          conv => lhs; rw [← List.take_append_drop j ps, List.drop_eq_getElem_cons hlt]
          rw [List.getElem?_eq_getElem hlt] at hy
          cases hy
          rfl
        rw [e3, List.find?_append, List.find?_eq_none.2 (by simpa using hno)]
        simp [he]
      exact Sat.to_ex y (((h12.perm (B := (blk k12 (orF y.2.1) 34 * (blk k1 (orF x.1) 34 * blk k #[.pointer x0] t)) * ((blk k3 #[.bool true] 4 * (blk k2 #[.int .u64 y.1] 27 * (Q * F))) * G')) (by
        show blk k3 #[.bool true] 4 * (blk k2 #[.int .u64 y.1] 27 * _) = _
        ac_rfl)).right.add_prop (p := Code.exit 0 = Code.exit 0 ∧ ps.find? (fun p => decide (p.2 = x)) = some y) ⟨rfl, hfind⟩).perm (by first | ac_rfl | (dsimp only; ac_rfl)))
    · have hno' : ∀ p ∈ ps.take (j + 1), p.2 ≠ x := by
        rw [e2]
        intro p hp
        rcases List.mem_append.1 hp with hp | hp
        · exact hno p hp
        · rw [List.mem_singleton] at hp; subst hp; exact hne
      exact ((h9.right.perm (B := (blk k #[.pointer x0] t * (blk k3 #[.bool false] 4 * (blk k2 #[.int .u64 0] 27 * (blk k1 (orF x.1) 34 * (Q * F))))) * G') (by ac_rfl)).add_prop hno').perm (by simp only [A]; ac_rfl)
  · intro D w5 h5
    rw [List.length_map] at h5
    have h5 := (h5.perm (B := prop (∀ p ∈ ps.take ps.length, p.2 ≠ x) * (markH D * (blk k #[.pointer x0] t * (blk k3 #[.bool false] 4 * (blk k2 #[.int .u64 0] 27 * (blk k1 (orF x.1) 34 * (Q * F))))))) (by simp only [A]; ac_rfl)).drew
    have hno := h5.prop
    rw [List.take_length] at hno
    have e : firstIs x ps = (0, false) := by
      unfold firstIs
      rw [List.find?_eq_none.2 (by simpa using hno)]
    rw [e]
    exact ldI_ok (h5.right.right.right.right.left.cell (i := 0) rfl) <| ldB_ok (h5.right.right.right.left.cell (i := 0) rfl) <| shutD_ok h5.right fun w' h6 => ⟨rfl, h6.right.right.right.right⟩
  · intro D c w5 h5
    obtain ⟨p, h5⟩ := Sat.ex h5.e1
    have h5 := (h5.perm (B := prop (c = .exit 0 ∧ ps.find? (fun p => decide (p.2 = x)) = some p) * (markH D * (blk k3 #[.bool true] 4 * (blk k2 #[.int .u64 p.1] 27 * (Q * F))))) (by ac_rfl)).drew
    obtain ⟨rfl, hf⟩ := h5.prop
    have e : firstIs x ps = (p.1, true) := by
      unfold firstIs
      rw [hf]
    rw [e]
    exact jmp_exit <| ldI_ok (h5.right.right.right.left.cell (i := 0) rfl) <| ldB_ok (h5.right.right.left.cell (i := 0) rfl) <| shutD_ok h5.right fun w' h6 => ⟨rfl, h6.right.right⟩
end Go.Proofs.Ytkgbfnlnpfedkaa
