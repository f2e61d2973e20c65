/- ArenaAll, ArenaNil: the walks. No conditions. -/
import Derived.Test.YtifcjbgkcgbefaaA8
set_option linter.unusedVariables false
set_option linter.unusedSimpArgs false
namespace Go.Proofs.Ytifcjbgkcgbefaa
open Go.Sp Go.RowKit

/-- What the gathering holds after so many rounds. -/
def HA (k1 k2 k3 : Nat) (most : Int) (ps : List (Int × Int)) (Q : HP) (j : Nat) : HP := ex fun p => ex fun c => ex fun q => ex fun d =>
  prop ((j : Int) ≤ max most 0) * (blk k1 #[.int .i64 most] T_int * (blk k2 #[.slice p j c] T_sl_uint64 * (blk k3 #[.slice q j d] T_sl_int * (tab T_uint64 1 fU64 p j c ((ps.take j).map Prod.fst) * (tab T_int 1 fI64 q j d ((ps.take j).map Prod.snd) * Q)))))
section
variable {w₀ w : World} {k1 k2 k3 : Nat} {most : Int} {ps : List (Int × Int)} {Q F : HP} {j : Nat}
theorem HA.open_ (h : Sat w₀ (HA k1 k2 k3 most ps Q j * F) w) : (j : Int) ≤ max most 0 ∧ ∃ p c q d, Sat w₀ (blk k1 #[.int .i64 most] T_int * (blk k2 #[.slice p j c] T_sl_uint64 * (blk k3 #[.slice q j d] T_sl_int * (tab T_uint64 1 fU64 p j c ((ps.take j).map Prod.fst) * (tab T_int 1 fI64 q j d ((ps.take j).map Prod.snd) * (Q * F)))))) w := by
  obtain ⟨p, h⟩ := Sat.ex h
  obtain ⟨c, h⟩ := Sat.ex h
  obtain ⟨q, h⟩ := Sat.ex h
  obtain ⟨d, h⟩ := Sat.ex h
  have h := h.perm (B := prop ((j : Int) ≤ max most 0) * (blk k1 #[.int .i64 most] T_int * (blk k2 #[.slice p j c] T_sl_uint64 * (blk k3 #[.slice q j d] T_sl_int * (tab T_uint64 1 fU64 p j c ((ps.take j).map Prod.fst) * (tab T_int 1 fI64 q j d ((ps.take j).map Prod.snd) * (Q * F))))))) (by ac_rfl)
  exact ⟨h.prop, p, c, q, d, h.right⟩
theorem HA.shut {p q : Option Addr} {c d : Nat} (hj : (j : Int) ≤ max most 0) (h : Sat w₀ (blk k1 #[.int .i64 most] T_int * (blk k2 #[.slice p j c] T_sl_uint64 * (blk k3 #[.slice q j d] T_sl_int * (tab T_uint64 1 fU64 p j c ((ps.take j).map Prod.fst) * (tab T_int 1 fI64 q j d ((ps.take j).map Prod.snd) * (Q * F)))))) w) :
    Sat w₀ (HA k1 k2 k3 most ps Q j * F) w :=
  Sat.to_ex p (Sat.to_ex c (Sat.to_ex q (Sat.to_ex d ((h.add_prop hj).perm (by ac_rfl)))))
end

theorem handles_ok {w₀ w : World} {F Q : HP} {x0 : Option Addr} {ps : List (Int × Int)} {most : Int} (hn : ps.length ≤ 65536)
    (hit : ∀ k t Pre, (∀ w₀ w, Sat w₀ Pre w → Sat w₀ (blk k #[.pointer x0] t * Q) w) → IterC Try.prog fn_arena_Arena_All_1 #[.pointer (some ⟨k, 0, none⟩)] Pre (ps.map enc2))
    (h : Sat w₀ (Q * F) w) :
    call Try.prog fn_tenonlaw02_handles #[.pointer x0, .int .i64 most] w fun v w' => ∃ p m c q d, v = .tuple #[.slice p m c, .slice q m d] ∧ m = min ps.length most.toNat ∧
      Sat w₀ (tab T_uint64 1 fU64 p m c ((ps.take m).map Prod.fst) * (tab T_int 1 fI64 q m d ((ps.take m).map Prod.snd) * (Q * F))) w' := by
  apply tenonlaw02_handles_call
  unfold tenonlaw02_handles
  refine new_ok h fun k1 w1 h1 => new_ok h1 fun k2 w2 h2 => new_ok h2 fun k3 w3 h3 => call_mono (arena_All_ok h3) ?_
  rintro _ w4 ⟨k, t, rfl, h4⟩
  have fin : ∀ {j D w}, Sat w₀ (markH D * HA k1 k2 k3 most ps (blk k #[.pointer x0] t * (Q * F)) j) w → j = min ps.length most.toNat →
      ldS (⟨k2, 0, none⟩ : Addr) w.drew fun p20 l20 c20 => ldS (⟨k3, 0, none⟩ : Addr) w.drew fun p21 l21 c21 => shutD D w.drew fun w13 =>
        (fun v w' => ∃ p m c q d, v = Value.tuple #[.slice p m c, .slice q m d] ∧ m = min ps.length most.toNat ∧
          Sat w₀ (tab T_uint64 1 fU64 p m c ((ps.take m).map Prod.fst) * (tab T_int 1 fI64 q m d ((ps.take m).map Prod.snd) * (Q * F))) w') (Value.tuple #[.slice p20 l20 c20, .slice p21 l21 c21]) w13 := by
    intro j D w h5 hj
    obtain ⟨hjm, p, c, q, d, h6⟩ := HA.open_ (h5.e1)
    have h6 := h6.drew
    refine ldS_ok (h6.right.left.cell (i := 0) rfl) <| ldS_ok (h6.right.right.left.cell (i := 0) rfl) ?_
    have h7 := h6.perm (B := markH D * ((blk k1 #[.int .i64 most] T_int * (blk k2 #[.slice p j c] T_sl_uint64 * (blk k3 #[.slice q j d] T_sl_int * blk k #[.pointer x0] t))) * (tab T_uint64 1 fU64 p j c ((ps.take j).map Prod.fst) * (tab T_int 1 fI64 q j d ((ps.take j).map Prod.snd) * (Q * F))))) (by ac_rfl)
    exact shutD_ok h7 fun w' h8 => ⟨p, j, c, q, d, rfl, hj, h8.right⟩
  have hA0 : Sat w₀ (HA k1 k2 k3 most ps (blk k #[.pointer x0] t * (Q * F)) 0 * emp) w4 :=
    HA.shut (p := none) (c := 0) (q := none) (d := 0) (by simp; omega) ((tab_nil T_uint64 1 fU64 (tab_nil T_int 1 fI64 (h4.with_emp))).perm (by simp only [List.take_zero, List.map_nil]; ac_rfl))
  refine ⟨_, _, _, rfl, w₀, fn_arena_Arena_All_1, _, ps.map enc2, HA k1 k2 k3 most ps (blk k #[.pointer x0] t * (Q * F)), fun c => ex fun j => prop (c = .exit 0 ∧ j = min ps.length most.toNat) * HA k1 k2 k3 most ps (blk k #[.pointer x0] t * (Q * F)) j,
    rfl, ⟨_, _, Try.func32, rfl⟩, hA0.left, ?_, hit k t _ fun w₀ w h => ?_, ?_, ?_, ?_⟩
  · intro x hx
    obtain ⟨y, _, rfl⟩ := List.mem_map.1 hx
    rfl
  · obtain ⟨_, p, c, q, d, h⟩ := HA.open_ (h.with_emp.e1)
    exact (h.perm (B := (blk k #[.pointer x0] t * Q) * (blk k1 #[.int .i64 most] T_int * (blk k2 #[.slice p 0 c] T_sl_uint64 * (blk k3 #[.slice q 0 d] T_sl_int * (tab T_uint64 1 fU64 p 0 c ((ps.take 0).map Prod.fst) * (tab T_int 1 fI64 q 0 d ((ps.take 0).map Prod.snd) * (F * emp))))))) (by ac_rfl)).left
  · intro j x hx G G' T w5 hT h5
    rw [List.getElem?_map] at hx
    obtain ⟨y, hy, rfl⟩ := Option.map_eq_some_iff.1 hx
    have hlt := (List.getElem?_eq_some_iff.1 hy).1
    refine ⟨_, _, rfl, hT _ _ _ h5 fun w6 h6 => ?_⟩
    obtain ⟨hjm, p, c, q, d, h6⟩ := HA.open_ h6
    refine ldS_ok (h6.right.left.cell (i := 0) rfl) <| ldI_ok (h6.left.cell (i := 0) rfl) <| br_dec (fun hge => ?_) (fun hlt2 => ?_)
    · have hj : j = min ps.length most.toNat := by omega
      exact Sat.to_ex j (((HA.shut (Q := blk k #[.pointer x0] t * (Q * F)) hjm h6).add_prop (p := Code.exit 0 = Code.exit 0 ∧ j = min ps.length most.toNat) ⟨rfl, hj⟩).perm (by ac_rfl))
    · have e2 : ps.take (j + 1) = ps.take j ++ [y] := by rw [List.take_add_one, hy]; rfl
      refine ldS_ok (h6.right.left.cell (i := 0) rfl) <| new_ok h6 fun k4 w7 h7 => ?_
      refine tab_app u64sTy fU64_len (by decide) fU64_one (x := y.1) (h7.perm (B := _ * (tab T_uint64 1 fU64 p j c ((ps.take j).map Prod.fst) * (blk k2 #[.slice p j c] T_sl_uint64 * (blk k1 #[.int .i64 most] T_int * (blk k3 #[.slice q j d] T_sl_int * (tab T_int 1 fI64 q j d ((ps.take j).map Prod.snd) * (blk k #[.pointer x0] t * (Q * F) * G'))))))) (by ac_rfl)) rfl (by simp only [maxLen]; omega) (by omega) fun p' c' w8 h8 => ?_
      refine st_ok (i := 0) h8.p1 (by simp) fun w9 h9 => ?_
      have h9 := h9.perm (B := blk k3 #[.slice q j d] T_sl_int * (tab T_int 1 fI64 q j d ((ps.take j).map Prod.snd) * (blk k2 #[.slice p' (j + 1) c'] T_sl_uint64 * (tab T_uint64 1 fU64 p' (j + 1) c' ((ps.take j).map Prod.fst ++ [y.1]) * (blk k1 #[.int .i64 most] T_int * (blk k #[.pointer x0] t * (Q * F) * G')))))) (by
        show blk k2 #[.slice p' (j + 1) c'] T_sl_uint64 * _ = _
        ac_rfl)
      refine ldS_ok (h9.left.cell (i := 0) rfl) <| new_ok h9 fun k5 w10 h10 => ?_
      refine tab_app intsTy fI64_len (by decide) fI64_one (x := y.2) (h10.perm (B := _ * (tab T_int 1 fI64 q j d ((ps.take j).map Prod.snd) * (blk k3 #[.slice q j d] T_sl_int * (blk k2 #[.slice p' (j + 1) c'] T_sl_uint64 * (tab T_uint64 1 fU64 p' (j + 1) c' ((ps.take j).map Prod.fst ++ [y.1]) * (blk k1 #[.int .i64 most] T_int * (blk k #[.pointer x0] t * (Q * F) * G'))))))) (by ac_rfl)) rfl (by simp only [maxLen]; omega) (by omega) fun q' d' w11 h11 => ?_
      refine st_ok (i := 0) h11.p1 (by simp) fun w12 h12 => ?_
      refine HA.shut (p := p') (c := c') (q := q') (d := d') (by omega) (h12.perm ?_)
      rw [e2, List.map_append, List.map_append]
      show blk k3 #[.slice q' (j + 1) d'] T_sl_int * (tab T_int 1 fI64 q' (j + 1) d' ((ps.take j).map Prod.snd ++ [y.2]) * _) = _
      simp only [List.map_cons, List.map_nil]
      ac_rfl
  · intro D w5 h5
    rw [List.length_map] at h5
    obtain ⟨hjm, _⟩ := HA.open_ (h5.e1)
    exact fin h5 (by omega)
  · intro D c w5 h5
    have h5 := h5.e1
    obtain ⟨j, h5⟩ := Sat.ex h5
    obtain ⟨rfl, hj⟩ := (h5.perm (B := prop (c = .exit 0 ∧ j = min ps.length most.toNat) * (HA k1 k2 k3 most ps (blk k #[.pointer x0] t * (Q * F)) j * markH D)) (by ac_rfl)).prop
    have h6 : Sat w₀ (markH D * HA k1 k2 k3 most ps (blk k #[.pointer x0] t * (Q * F)) j) w5 := (h5.perm (B := prop (Code.exit 0 = .exit 0 ∧ j = min ps.length most.toNat) * (markH D * HA k1 k2 k3 most ps (blk k #[.pointer x0] t * (Q * F)) j)) (by ac_rfl)).right
    exact jmp_exit (fin h6 hj)
end Go.Proofs.Ytifcjbgkcgbefaa
