/- Weak: going over, the document's example, WeakNil. No conditions. -/
import Derived.Test.YtiogdefiokmmkaaWK3
set_option linter.unusedVariables false
set_option linter.unusedSimpArgs false
set_option maxRecDepth 100000
namespace Go.Proofs.Ytiogdefiokmmkaa
open Go.Sp Go.RowKit

def tgOf (x : WP) : Int := match x with | some p => p.2.tg | none => 0
def pairW (p : Nat × Spot WP) : Int × Int := (hd p.1 p.2.g, tgOf p.2.x)
def encW (p : Int × Int) : Array Value := #[.int .u64 p.1, .int .u64 p.2]
def pairsW (s : WS) : List (Int × Int) := (liveFrom 0 s.sp).map pairW
theorem weak_Blocks_ok {w₀ w : World} {F : HP} {x : Option Addr} (h : Sat w₀ F w) :
    call Try.prog fn_weak_Table_Blocks #[.pointer x] w fun v w' => ∃ k t, v = .func (.func fn_weak_Table_Blocks_1) #[] #[.pointer (some ⟨k, 0, none⟩)] ∧ Sat w₀ (blk k #[.pointer x] t * F) w' := by
  apply weak_Table_Blocks_call
  unfold weak_Table_Blocks
  exact new_ok h fun k w1 h1 => ⟨k, _, rfl, h1⟩
theorem wBlocks_nil {w₀ : World} {k t : Nat} {Pre : Nat → HP} (hP : ∀ w, Sat w₀ (Pre 0) w → Sat w₀ (blk k #[.pointer none] t) w) :
    IterC Try.prog w₀ fn_weak_Table_Blocks_1 #[.pointer (some ⟨k, 0, none⟩)] Pre [] := by
  intro f b c B Bx hok hB hy F w h
  show call Try.prog _ #[.func f b c, .pointer (some ⟨k, 0, none⟩)] w _
  apply weak_Table_Blocks_1_call
  unfold weak_Table_Blocks_1
  exact new_ok h fun k1 w1 h1 => ldP_ok ((hP _ (hB 0 _ h1.right.left)).cell (i := 0) rfl) <| br_true rfl <| .inl h1.right
theorem wBlocks_iter {w₀ : World} {k b a r t : Nat} {N : Int} {s : WS} {Pre : Nat → HP} (hP : ∀ j w, Sat w₀ (Pre j) w → Sat w₀ (blk k #[.pointer (some ⟨b, 0, none⟩)] t) w) (hG : ∀ j w, Sat w₀ (Pre j) w → Sat w₀ (WT b a r N s) w) (hs : WOk N s) :
    IterC Try.prog w₀ fn_weak_Table_Blocks_1 #[.pointer (some ⟨k, 0, none⟩)] Pre ((pairsW s).map encW) := by
  intro f f2 f3 B Bx hok hB hy F w h
  show call Try.prog _ #[.func f f2 f3, .pointer (some ⟨k, 0, none⟩)] w _
  apply weak_Table_Blocks_1_call
  unfold weak_Table_Blocks_1
  have hT : ∀ j w, Sat w₀ (B j) w → ∃ ff, Sat w₀ (blk b (tbA a r) T_weak_Table * (Ar a (mapA pt s) * (stars s.sp * (mpH r ff * emp)))) w := fun j w h => by
    obtain ⟨_, ff, _, h2⟩ := WT.open_ ((hG j _ (hB j _ h)).with_emp.e1)
    exact ⟨ff, h2⟩
  refine new_ok h fun k1 w1 h1 => ldP_ok ((hP 0 _ (hB 0 _ h1.right.left)).cell (i := 0) rfl) <| br_false rfl <| ldP_ok ((hP 0 _ (hB 0 _ h1.right.left)).cell (i := 0) rfl) <| nn_ok <| ?_
  obtain ⟨ff, h2⟩ := hT 0 _ h1.right.left
  refine ldP_ok (h2.left.cell (i := 0) rfl) <| call_mono (arena_All_ok h1) ?_
  rintro _ w4 ⟨kk, t2, rfl, h4⟩
  have hit := All_iter (w₀ := w₀) (k := kk) (a := a) (t := t2) (s := mapA pt s) (Pre := fun j => blk kk #[.pointer (some ⟨a, 0, none⟩)] t2 * (blk k1 #[.func f f2 f3] 61 * (B j * F))) hs.ok.mapA (fun w h => h.left) (fun w h => by
    obtain ⟨ff, h2⟩ := hT 0 _ h.right.right.left
    exact h2.right.left)
  have exs : (liveFrom 0 (mapA pt s).sp).map (fun p => enc2 (pairOf p)) = (liveFrom 0 s.sp).map fun p => enc2 (hd p.1 p.2.g, pt p.2.x) := by
    show (liveFrom 0 (s.sp.map _)).map _ = _
    rw [liveFrom_mapA, List.map_map]
    rfl
  rw [exs] at hit
  refine asF_ok ⟨w₀, fn_arena_Arena_All_1, _, (liveFrom 0 s.sp).map fun p => enc2 (hd p.1 p.2.g, pt p.2.x), fun j => blk kk #[.pointer (some ⟨a, 0, none⟩)] t2 * (blk k1 #[.func f f2 f3] 61 * (B j * F)), fun c => prop (c = .ret) * (Bx * F), rfl, ⟨_, _, Try.func41, rfl⟩, h4, ?_, hit, ?_, ?_, ?_⟩
  · intro x hx
    obtain ⟨y, _, rfl⟩ := List.mem_map.1 hx
    rfl
  · intro j x hx G G' T w5 hTT h5
    rw [List.getElem?_map] at hx
    obtain ⟨y, hy0, rfl⟩ := Option.map_eq_some_iff.1 hx
    obtain ⟨hyg, hy1⟩ := live_get y (List.mem_of_getElem? hy0)
    obtain ⟨ky, c, hyx, _⟩ := hs.pay y.2 (List.mem_of_getElem? hyg) hy1
    have p : Spt s (hd y.1 y.2.g) y.1 y.2 ky c := ⟨hyg, hy1, rfl, hyx⟩
    refine ⟨_, pvA (pt y.2.x), rfl, hTT (blk kk #[.pointer (some ⟨a, 0, none⟩)] t2 * (blk k1 #[.func f f2 f3] 61 * (B j * F))) _ _ h5 fun w8 h8 => ?_⟩
    have h9 := (h8.perm (B := blk k1 #[.func f f2 f3] 61 * (B j * (blk kk #[.pointer (some ⟨a, 0, none⟩)] t2 * (F * G')))) (by ac_rfl)).drew
    obtain ⟨ff, h10⟩ := hT j _ h9.right.left
    rw [star_out p] at h10
    rw [hyx]
    refine ldF_ok (h9.left.cell (i := 0) rfl) <| nn_ok <| ldI_ok (h10.right.right.left.left.cell (i := 0) rfl) <| callV_mono (hy j (encW (pairW y)) (by rw [pairsW, List.map_map, List.getElem?_map, hy0]; rfl) (blk k1 #[.func f f2 f3] 61 * (blk kk #[.pointer (some ⟨a, 0, none⟩)] t2 * (F * G'))) _ (h9.perm (by ac_rfl)) |> fun h => by
      have e : encW (pairW y) = #[.int .u64 (hd y.1 y.2.g), .int .u64 c.tg] := by unfold encW pairW; rw [hyx]; rfl
      rw [e] at h
      exact h) ?_
    rintro v w9 (⟨rfl, h11⟩ | ⟨rfl, h11⟩)
    · exact asB_ok <| br_false rfl <| h11.perm (by dsimp only; ac_rfl)
    · exact asB_ok <| br_true rfl <| ((h11.perm (B := (blk kk #[.pointer (some ⟨a, 0, none⟩)] t2 * blk k1 #[.func f f2 f3] 61) * ((Bx * F) * G')) (by ac_rfl)).right.add_prop (p := Code.ret = Code.ret) rfl).perm (by first | ac_rfl | (dsimp only; ac_rfl))
  · intro D w5 h5
    rw [List.length_map] at h5
    rw [List.length_map, pairsW, List.length_map]
    exact shutD_ok h5 fun w' h6 => .inl h6.right.right
  · intro D c w5 h5
    have h5 := h5.perm (B := prop (c = .ret) * (markH D * (Bx * F))) (by first | ac_rfl | (dsimp only; ac_rfl))
    obtain rfl := h5.prop
    exact jmp_ret <| shutD_ok h5.right fun w' h6 => .inr h6

/-! ### gathering: of whatever iterator -/
def HT (k1 k2 k3 : Nat) (most : Int) (ps : List (Int × Int)) (Q : HP) (j : Nat) : HP := ex fun p => ex fun c => ex fun q => ex fun d =>
  prop ((j : Int) ≤ max most 0) * (blk k1 #[.int .i64 most] T_int * (blk k2 #[.slice p j c] T_sl_uint64 * (blk k3 #[.slice q j d] T_sl_uint64 * (tab T_uint64 1 fU64 p j c ((ps.take j).map Prod.fst) * (tab T_uint64 1 fU64 q j d ((ps.take j).map Prod.snd) * Q)))))
section
variable {w₀ w : World} {k1 k2 k3 : Nat} {most : Int} {ps : List (Int × Int)} {Q F : HP} {j : Nat}
theorem HT.open_ (h : Sat w₀ (HT k1 k2 k3 most ps Q j * F) w) : (j : Int) ≤ max most 0 ∧ ∃ p c q d, Sat w₀ (blk k1 #[.int .i64 most] T_int * (blk k2 #[.slice p j c] T_sl_uint64 * (blk k3 #[.slice q j d] T_sl_uint64 * (tab T_uint64 1 fU64 p j c ((ps.take j).map Prod.fst) * (tab T_uint64 1 fU64 q j d ((ps.take j).map Prod.snd) * (Q * F)))))) w := by
  obtain ⟨p, h⟩ := Sat.ex h
  obtain ⟨c, h⟩ := Sat.ex h
  obtain ⟨q, h⟩ := Sat.ex h
  obtain ⟨d, h⟩ := Sat.ex h
  have h := h.perm (B := prop ((j : Int) ≤ max most 0) * (blk k1 #[.int .i64 most] T_int * (blk k2 #[.slice p j c] T_sl_uint64 * (blk k3 #[.slice q j d] T_sl_uint64 * (tab T_uint64 1 fU64 p j c ((ps.take j).map Prod.fst) * (tab T_uint64 1 fU64 q j d ((ps.take j).map Prod.snd) * (Q * F))))))) (by ac_rfl)
  exact ⟨h.prop, p, c, q, d, h.right⟩
theorem HT.shut {p q : Option Addr} {c d : Nat} (hj : (j : Int) ≤ max most 0) (h : Sat w₀ (blk k1 #[.int .i64 most] T_int * (blk k2 #[.slice p j c] T_sl_uint64 * (blk k3 #[.slice q j d] T_sl_uint64 * (tab T_uint64 1 fU64 p j c ((ps.take j).map Prod.fst) * (tab T_uint64 1 fU64 q j d ((ps.take j).map Prod.snd) * (Q * F)))))) w) :
    Sat w₀ (HT k1 k2 k3 most ps Q j * F) w :=
  Sat.to_ex p (Sat.to_ex c (Sat.to_ex q (Sat.to_ex d ((h.add_prop hj).perm (by ac_rfl)))))
end
theorem told_ok {w₀ w : World} {F Q : HP} {x0 : Option Addr} {ps : List (Int × Int)} {most : Int} (hn : ps.length ≤ 65536)
    (hit : ∀ k t (Pre : Nat → HP), (∀ j w, Sat w₀ (Pre j) w → Sat w₀ (blk k #[.pointer x0] t) w) → (∀ j w, Sat w₀ (Pre j) w → Sat w₀ Q w) → IterC Try.prog w₀ fn_weak_Table_Blocks_1 #[.pointer (some ⟨k, 0, none⟩)] Pre (ps.map encW))
    (h : Sat w₀ (Q * F) w) :
    call Try.prog fn_tenonlaw12_told #[.pointer x0, .int .i64 most] w fun v w' => ∃ p m c q d, v = .tuple #[.slice p m c, .slice q m d] ∧ m = min ps.length most.toNat ∧
      Sat w₀ (tab T_uint64 1 fU64 p m c ((ps.take m).map Prod.fst) * (tab T_uint64 1 fU64 q m d ((ps.take m).map Prod.snd) * (Q * F))) w' := by
  apply tenonlaw12_told_call
  unfold tenonlaw12_told
  refine new_ok h fun k1 w1 h1 => new_ok h1 fun k2 w2 h2 => new_ok h2 fun k3 w3 h3 => call_mono (weak_Blocks_ok h3) ?_
  rintro _ w4 ⟨k, t, rfl, h4⟩
  have fin : ∀ {j D w}, Sat w₀ (markH D * HT k1 k2 k3 most ps (blk k #[.pointer x0] t * (Q * F)) j) w → j = min ps.length most.toNat →
      ldS (⟨k2, 0, none⟩ : Addr) w.drew fun p20 l20 c20 => ldS (⟨k3, 0, none⟩ : Addr) w.drew fun p21 l21 c21 => shutD D w.drew fun w13 =>
        (fun v w' => ∃ p m c q d, v = Value.tuple #[.slice p m c, .slice q m d] ∧ m = min ps.length most.toNat ∧
          Sat w₀ (tab T_uint64 1 fU64 p m c ((ps.take m).map Prod.fst) * (tab T_uint64 1 fU64 q m d ((ps.take m).map Prod.snd) * (Q * F))) w') (Value.tuple #[.slice p20 l20 c20, .slice p21 l21 c21]) w13 := by
    intro j D w h5 hj
    obtain ⟨hjm, p, c, q, d, h6⟩ := HT.open_ (h5.e1)
    have h6 := h6.drew
    refine ldS_ok (h6.right.left.cell (i := 0) rfl) <| ldS_ok (h6.right.right.left.cell (i := 0) rfl) ?_
    have h7 := h6.perm (B := markH D * ((blk k1 #[.int .i64 most] T_int * (blk k2 #[.slice p j c] T_sl_uint64 * (blk k3 #[.slice q j d] T_sl_uint64 * blk k #[.pointer x0] t))) * (tab T_uint64 1 fU64 p j c ((ps.take j).map Prod.fst) * (tab T_uint64 1 fU64 q j d ((ps.take j).map Prod.snd) * (Q * F))))) (by ac_rfl)
    exact shutD_ok h7 fun w' h8 => ⟨p, j, c, q, d, rfl, hj, h8.right⟩
  have hA0 : Sat w₀ (HT k1 k2 k3 most ps (blk k #[.pointer x0] t * (Q * F)) 0 * emp) w4 :=
    HT.shut (p := none) (c := 0) (q := none) (d := 0) (by simp; omega) ((tab_nil T_uint64 1 fU64 (tab_nil T_uint64 1 fU64 (h4.with_emp))).perm (by simp only [List.take_zero, List.map_nil]; ac_rfl))
  refine asF_ok ⟨w₀, fn_weak_Table_Blocks_1, _, ps.map encW, HT k1 k2 k3 most ps (blk k #[.pointer x0] t * (Q * F)), fun c => ex fun j => prop (c = .exit 0 ∧ j = min ps.length most.toNat) * HT k1 k2 k3 most ps (blk k #[.pointer x0] t * (Q * F)) j,
    rfl, ⟨_, _, Try.func38, rfl⟩, hA0.left, ?_, hit k t _ (fun j w h => ?_) (fun j w h => ?_), ?_, ?_, ?_⟩
  · intro x hx
    obtain ⟨y, _, rfl⟩ := List.mem_map.1 hx
    rfl
  · obtain ⟨_, p, c, q, d, h⟩ := HT.open_ (h.with_emp.e1)
    exact h.right.right.right.right.right.left.left
  · obtain ⟨_, p, c, q, d, h⟩ := HT.open_ (h.with_emp.e1)
    exact h.right.right.right.right.right.left.right.left
  · intro j x hx G G' T w5 hT h5
    rw [List.getElem?_map] at hx
    obtain ⟨y, hy, rfl⟩ := Option.map_eq_some_iff.1 hx
    have hlt := (List.getElem?_eq_some_iff.1 hy).1
    refine ⟨_, _, rfl, hT (HT k1 k2 k3 most ps (blk k #[.pointer x0] t * (Q * F)) j) _ _ h5 fun w8 h8 => ?_⟩
    obtain ⟨hjm, p, c, q, d, h6⟩ := HT.open_ h8
    refine ldS_ok (h6.right.left.cell (i := 0) rfl) <| ldI_ok (h6.left.cell (i := 0) rfl) <| br_dec (fun hge => ?_) (fun hlt2 => ?_)
    · have hj : j = min ps.length most.toNat := by omega
      exact Sat.to_ex j (((HT.shut (Q := blk k #[.pointer x0] t * (Q * F)) hjm h6).add_prop (p := Code.exit 0 = Code.exit 0 ∧ j = min ps.length most.toNat) ⟨rfl, hj⟩).perm (by first | ac_rfl | (dsimp only; ac_rfl)))
    · have e2 : ps.take (j + 1) = ps.take j ++ [y] := by rw [List.take_add_one, hy]; rfl
      refine ldS_ok (h6.right.left.cell (i := 0) rfl) <| new_ok h6 fun k4 w7 h7 => ?_
      refine tab_app u64sTy fU64_len (by decide) fU64_one (x := y.1) (h7.perm (B := _ * (tab T_uint64 1 fU64 p j c ((ps.take j).map Prod.fst) * (blk k2 #[.slice p j c] T_sl_uint64 * (blk k1 #[.int .i64 most] T_int * (blk k3 #[.slice q j d] T_sl_uint64 * (tab T_uint64 1 fU64 q j d ((ps.take j).map Prod.snd) * (blk k #[.pointer x0] t * (Q * F) * G'))))))) (by ac_rfl)) rfl (by simp only [maxLen]; omega) (by omega) fun p' c' w8 h8 => ?_
      refine st_ok (i := 0) h8.p1 (by simp) fun w9 h9 => ?_
      have h9 := h9.perm (B := blk k3 #[.slice q j d] T_sl_uint64 * (tab T_uint64 1 fU64 q j d ((ps.take j).map Prod.snd) * (blk k2 #[.slice p' (j + 1) c'] T_sl_uint64 * (tab T_uint64 1 fU64 p' (j + 1) c' ((ps.take j).map Prod.fst ++ [y.1]) * (blk k1 #[.int .i64 most] T_int * (blk k #[.pointer x0] t * (Q * F) * G')))))) (by
        show blk k2 #[.slice p' (j + 1) c'] T_sl_uint64 * _ = _
        ac_rfl)
      refine ldS_ok (h9.left.cell (i := 0) rfl) <| new_ok h9 fun k5 w10 h10 => ?_
      refine tab_app u64sTy fU64_len (by decide) fU64_one (x := y.2) (h10.perm (B := _ * (tab T_uint64 1 fU64 q j d ((ps.take j).map Prod.snd) * (blk k3 #[.slice q j d] T_sl_uint64 * (blk k2 #[.slice p' (j + 1) c'] T_sl_uint64 * (tab T_uint64 1 fU64 p' (j + 1) c' ((ps.take j).map Prod.fst ++ [y.1]) * (blk k1 #[.int .i64 most] T_int * (blk k #[.pointer x0] t * (Q * F) * G'))))))) (by ac_rfl)) rfl (by simp only [maxLen]; omega) (by omega) fun q' d' w11 h11 => ?_
      refine st_ok (i := 0) h11.p1 (by simp) fun w12 h12 => ?_
      refine HT.shut (p := p') (c := c') (q := q') (d := d') (by omega) (h12.perm ?_)
      rw [e2, List.map_append, List.map_append]
      show blk k3 #[.slice q' (j + 1) d'] T_sl_uint64 * (tab T_uint64 1 fU64 q' (j + 1) d' ((ps.take j).map Prod.snd ++ [y.2]) * _) = _
      simp only [List.map_cons, List.map_nil]
      ac_rfl
  · intro D w5 h5
    rw [List.length_map] at h5
    obtain ⟨hjm, _⟩ := HT.open_ (h5.e1)
    exact fin h5 (by omega)
  · intro D c w5 h5
    have h5 := h5.e1
    obtain ⟨j, h5⟩ := Sat.ex h5
    obtain ⟨rfl, hj⟩ := (h5.perm (B := prop (c = .exit 0 ∧ j = min ps.length most.toNat) * (HT k1 k2 k3 most ps (blk k #[.pointer x0] t * (Q * F)) j * markH D)) (by ac_rfl)).prop
    have h6 : Sat w₀ (markH D * HT k1 k2 k3 most ps (blk k #[.pointer x0] t * (Q * F)) j) w5 := (h5.perm (B := prop (Code.exit 0 = .exit 0 ∧ j = min ps.length most.toNat) * (markH D * HT k1 k2 k3 most ps (blk k #[.pointer x0] t * (Q * F)) j)) (by ac_rfl)).right
    exact jmp_exit (fin h6 hj)
end Go.Proofs.Ytiogdefiokmmkaa
