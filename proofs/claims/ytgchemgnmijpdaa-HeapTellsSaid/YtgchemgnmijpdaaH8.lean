/- Contracts of layer 11 (heap): going over objects and slots. No conditions. -/
import Derived.Test.YtgchemgnmijpdaaH7
set_option linter.unusedVariables false
set_option linter.unusedSimpArgs false
set_option maxRecDepth 100000
namespace Go.Proofs.Ytgchemgnmijpdaa
open Go.Sp Go.RowKit

theorem AllW_iter {w₀ : World} {k a t : Nat} {xs : List (Array Value)} {Pre : Nat → HP} (hP : ∀ w, Sat w₀ (Pre 0) w → Sat w₀ (blk k #[.pointer (some ⟨a, 0, none⟩)] t) w)
    (hA : ∀ w, Sat w₀ (Pre 0) w → ∃ s : AS Pay, AOk s ∧ Sat w₀ (Ar a s) w ∧ ((liveFrom 0 s.sp).map fun p => enc2 (pairOf p)) = xs) :
    IterC Try.prog w₀ fn_arena_Arena_All_1 #[.pointer (some ⟨k, 0, none⟩)] Pre xs := by
  intro f b c B Bx hok hB hy F w h
  show call Try.prog _ #[.func f b c, .pointer (some ⟨k, 0, none⟩)] w _
  apply arena_Arena_All_1_call
  unfold arena_Arena_All_1
  refine ldP_ok ((hP _ (hB 0 _ h.left)).cell (i := 0) rfl) <| br_false rfl <| new_ok h fun k2 w1 h1 => ?_
  have h1' := hP _ (hB 0 _ h1.right.left)
  obtain ⟨s, hs, hAr, rfl⟩ := hA _ (hB 0 _ h1.right.left)
  have hl := hs.len
  have hm := hs.most1
  obtain ⟨p, c5, q, d, h2⟩ := Ar.open_ (hAr.with_emp.e1)
  refine ldP_ok (h1'.cell (i := 0) rfl) <| nn_ok <| ldS_ok (h2.left.cell (i := 2) rfl) ?_
  have hT : Sat w₀ (own TSpot 3 p s.sp.length c5 (s.sp.flatMap spotF)) w1 := h2.right.left
  refine app_ok spotsTy (Sat.own_full (t := TSpot) (sz := 3) (n := 0) h1 rfl (by decide)) hT.rd (fun u hu => ?_) (by simp only [maxLen]; omega) (by omega) fun p6 c6 w2 h3 => ?_
  · obtain ⟨y, _, hu⟩ := List.mem_flatMap.1 hu
    exact spotF_one y u hu
  rw [Nat.zero_add] at h3 ⊢
  have h3 : Sat w₀ (tab TSpot 3 spotF p6 s.sp.length c6 s.sp * (B 0 * F)) w2 := h3
  refine ⟨fun n w m => 0 ≤ n ∧ n ≤ s.sp.length ∧ m = s.sp.length - n.toNat ∧ Sat w₀ (tab TSpot 3 spotF p6 s.sp.length c6 s.sp * (B (liveFrom 0 (s.sp.take n.toNat)).length * F)) w, ⟨_, by omega, by omega, rfl, h3⟩, ?_⟩
  rintro u n w3 m ⟨h0, h1, rfl, h4⟩
  refine br_dec (fun hlt => ?_) (fun hge => .inl ?_)
  · obtain ⟨i, rfl⟩ : ∃ i : Nat, n = i := ⟨n.toNat, by omega⟩
    rw [Int.toNat_natCast] at h4
    have hi : i < s.sp.length := by omega
    obtain ⟨y, hy0⟩ : ∃ y, s.sp[i]? = some y := ⟨s.sp[i], by simp [hi]⟩
    have hy' : s.sp[(i : Int).toNat]? = some y := by rw [Int.toNat_natCast]; exact hy0
    have hgy := hs.g y (List.mem_of_getElem? hy0)
    have e1 : ((i : Int) + 1).toNat = i + 1 := by omega
    have e2 : s.sp.take (i + 1) = s.sp.take i ++ [y] := by rw [List.take_add_one, hy0]; rfl
    have e3 : (s.sp.take i).length = i := by rw [List.length_take]; omega
    refine tab_idx spotF_len h4.left (by decide) (by omega) hy' fun g hg => ldA_ok (vs := (spotF y).toArray) rfl (fun j hj => ?_) <| new_ok h4 fun k3 w4 h5 => stA_ok h5 rfl rfl (fun u hu => spotF_one y u hu) fun w5 h6 => ?_
    · rw [Int.toNat_natCast]
      exact (tab_cell spotF_len (j := j) (v := (spotF y)[j]'(by rw [spotF_len]; exact hj)) h4.left hg hy0 hj (by simp [spotF_len, hj])).trans (by simp [spotF_len, hj])
    have h6 := h6.drew
    have cl : ∀ (j : Nat) {v : Value}, (spotF y).toArray[j]? = some v → w5.drew.cell? ((⟨k3, 0, none⟩ : Addr).add j) = some v := by
      intro j v hv
      rw [add_mk, Nat.zero_add]
      exact h6.left.cell hv
    refine ldB_ok (cl 2 rfl) <| br_split (fun ht => ?_) (fun hf => ?_)
    · have ht : y.st = 1 := by simpa using ht
      refine ldI_ok (cl 1 rfl) <| ldP_ok (n := pvA y.x) (cl 0 rfl) <| call_pure (arena_handle_ok (i := i) (g := y.g) (by omega) (by omega) (by omega)) <| asI_ok ⟨cl 0 rfl, ?_⟩
      have hx : ((liveFrom 0 s.sp).map fun p => enc2 (pairOf p))[(liveFrom 0 (s.sp.take i)).length]? = some (enc2 (hd i y.g, y.x)) := by
        have e4 : s.sp = s.sp.take i ++ (y :: s.sp.drop (i + 1)) := by
          conv => lhs; rw [← List.take_append_drop i s.sp, List.drop_eq_getElem_cons hi]
          rw [List.getElem?_eq_getElem hi] at hy0
          cases hy0
          rfl
        have e5 : liveFrom 0 s.sp = liveFrom 0 (s.sp.take i) ++ (i, y) :: liveFrom (i + 1) (s.sp.drop (i + 1)) := by
          conv => lhs; rw [e4, liveFrom_more, e3, Nat.zero_add, liveFrom, if_pos ht]
        rw [List.getElem?_map, e5]
        simp [pairOf]
      refine callV_mono (hy _ _ hx (blk k3 (spotF y).toArray TSpot * (tab TSpot 3 spotF p6 s.sp.length c6 s.sp * F)) _ (h6.perm (by ac_rfl))) ?_
      rintro v w7 (⟨rfl, h7⟩ | ⟨rfl, h7⟩)
      · refine asB_ok <| br_false rfl <| arith_i64 (by omega) (by omega) ⟨_, ?_, by omega, by omega, rfl, ?_⟩
        · omega
        · rw [e1, e2, liveFrom_append, if_pos ht, List.length_append]
          exact (h7.perm (B := blk k3 (spotF y).toArray TSpot * (tab TSpot 3 spotF p6 s.sp.length c6 s.sp * (B ((liveFrom 0 (s.sp.take i)).length + 1) * F))) (by ac_rfl)).right
      · exact asB_ok <| br_true rfl <| .inr ((h7.perm (B := (blk k3 (spotF y).toArray TSpot * tab TSpot 3 spotF p6 s.sp.length c6 s.sp) * (Bx * F)) (by ac_rfl)).right)
    · have hf : y.st ≠ 1 := by simpa using hf
      refine arith_i64 (by omega) (by omega) ⟨_, by omega, by omega, by omega, rfl, ?_⟩
      rw [e1, e2, liveFrom_append, if_neg hf, List.append_nil]
      exact h6.right
  · have e : s.sp.take n.toNat = s.sp := by rw [List.take_of_length_le]; omega
    rw [e] at h4
    rw [List.length_map]
    exact h4.right

section
variable {w₀ : World} {b a : Nat} {top : Int} {P : PM} {S : HS}
theorem Seen.list {s : AS PO} (hs : Seen P S s) (ho : AOk S) : ((liveFrom 0 (mapA ptO s).sp).map fun p => enc2 (pairOf p)) = (allFrom 0 S.sp).map fun h => enc2 (h, P h) := by
  have hok := hs.ok ho
  have e1 : (liveFrom 0 (mapA ptO s).sp) = (liveFrom 0 s.sp).map fun p => (p.1, ⟨ptO p.2.x, p.2.g, p.2.st⟩) := liveFrom_mapA ptO s.sp 0
  have e2 : allFrom 0 S.sp = allFrom 0 s.sp := by rw [← hs.om]; exact allFrom_mapA omO s 0
  rw [e1, e2, allFrom_live, List.map_map, List.map_map]
  apply List.map_congr_left
  intro p hp
  obtain ⟨h1, h2⟩ := live_get p hp
  show enc2 (hd p.1 p.2.g, ptO p.2.x) = enc2 (hd p.1 p.2.g, P (hd p.1 p.2.g))
  have : pay s (hd p.1 p.2.g) = some p.2.x := (pay_iff hok).2 ⟨p.1, p.2, h1, h2, rfl, rfl⟩
  rw [hs.ptr, this]
  rfl
theorem heap_All_ok {w : World} {F : HP} {x : Option Addr} (h : Sat w₀ F w) :
    call Try.prog fn_heap_Heap_All #[.pointer x] w fun v w' => ∃ k, v = .func (.func fn_heap_Heap_All_1) #[] #[.pointer (some ⟨k, 0, none⟩)] ∧ Sat w₀ (blk k #[.pointer x] 23 * F) w' := by
  apply heap_Heap_All_call
  unfold heap_Heap_All
  exact new_ok h fun k w1 h1 => ⟨k, rfl, h1⟩
theorem hAll_nil {k : Nat} {Pre : Nat → HP} (hP : ∀ w, Sat w₀ (Pre 0) w → Sat w₀ (blk k #[.pointer none] 23) w) :
    IterC Try.prog w₀ fn_heap_Heap_All_1 #[.pointer (some ⟨k, 0, none⟩)] Pre [] := by
  intro f b c B Bx hok hB hy F w h
  show call Try.prog _ #[.func f b c, .pointer (some ⟨k, 0, none⟩)] w _
  apply heap_Heap_All_1_call
  unfold heap_Heap_All_1
  exact new_ok h fun k1 w1 h1 => ldP_ok ((hP _ (hB 0 _ h1.right.left)).cell (i := 0) rfl) <| br_true rfl <| .inl h1.right
def enc1 (h : Int) : Array Value := #[.int .u64 h]
theorem hAll_iter {k : Nat} {Pre : Nat → HP} (ho : AOk S) (hP : ∀ w, Sat w₀ (Pre 0) w → Sat w₀ (blk k #[.pointer (some ⟨b, 0, none⟩)] 23) w) (hG : ∀ w, Sat w₀ (Pre 0) w → Sat w₀ (HH b a top P S) w) :
    IterC Try.prog w₀ fn_heap_Heap_All_1 #[.pointer (some ⟨k, 0, none⟩)] Pre ((allFrom 0 S.sp).map enc1) := by
  intro f f2 f3 B Bx hok hB hy F w h
  show call Try.prog _ #[.func f f2 f3, .pointer (some ⟨k, 0, none⟩)] w _
  apply heap_Heap_All_1_call
  unfold heap_Heap_All_1
  refine new_ok h fun k1 w1 h1 => ldP_ok ((hP _ (hB 0 _ h1.right.left)).cell (i := 0) rfl) <| br_false rfl <| ldP_ok ((hP _ (hB 0 _ h1.right.left)).cell (i := 0) rfl) <| nn_ok <| ldP_ok (HH.c1 (hG _ (hB 0 _ h1.right.left)).with_emp.e1) <| call_mono (arena_All_ok h1) ?_
  rintro _ w4 ⟨kk, t2, rfl, h4⟩
  refine asF_ok ⟨w₀, fn_arena_Arena_All_1, _, (allFrom 0 S.sp).map fun h => enc2 (h, P h), fun j => blk kk #[.pointer (some ⟨a, 0, none⟩)] t2 * (blk k1 #[.func f f2 f3] 138 * (B j * F)), fun c => prop (c = .ret) * (Bx * F), rfl, ⟨_, _, Try.func65, rfl⟩, h4, ?_,
    AllW_iter (a := a) (t := t2) (fun w h => h.left) (fun w h => ?_), ?_, ?_, ?_⟩
  · intro x hx
    obtain ⟨y, _, rfl⟩ := List.mem_map.1 hx
    rfl
  · obtain ⟨s, hs, h2⟩ := HH.open_ (hG _ (hB 0 _ h.right.right.left)).with_emp.e1
    exact ⟨mapA ptO s, (hs.ok ho).mapA, h2.right.left, hs.list ho⟩
  · intro j x hx G G' T w5 hT h5
    rw [List.getElem?_map] at hx
    obtain ⟨y, hy0, rfl⟩ := Option.map_eq_some_iff.1 hx
    refine ⟨_, _, rfl, hT (blk kk #[.pointer (some ⟨a, 0, none⟩)] t2 * (blk k1 #[.func f f2 f3] 138 * (B j * F))) _ _ h5 fun w8 h8 => ?_⟩
    have h9 := h8.perm (B := blk k1 #[.func f f2 f3] 138 * (blk kk #[.pointer (some ⟨a, 0, none⟩)] t2 * (B j * (F * G')))) (by ac_rfl)
    refine ldF_ok (h9.left.cell (i := 0) rfl) ?_
    refine callV_mono (hy j (enc1 y) (by rw [List.getElem?_map, hy0]; rfl) (blk k1 #[.func f f2 f3] 138 * (blk kk #[.pointer (some ⟨a, 0, none⟩)] t2 * (F * G'))) _ (h9.perm (by ac_rfl))) ?_
    rintro v w9 (⟨rfl, h10⟩ | ⟨rfl, h10⟩)
    · exact asB_ok <| br_false rfl <| h10.perm (B := (blk kk #[.pointer (some ⟨a, 0, none⟩)] t2 * (blk k1 #[.func f f2 f3] 138 * (B (j + 1) * F))) * G') (by ac_rfl)
    · exact asB_ok <| br_true rfl <| (((h10.perm (B := (blk kk #[.pointer (some ⟨a, 0, none⟩)] t2 * blk k1 #[.func f f2 f3] 138) * ((Bx * F) * G')) (by ac_rfl)).right.add_prop (p := Code.ret = Code.ret) rfl).perm (by first | ac_rfl | (dsimp only; ac_rfl)))
  · intro D w5 h5
    rw [List.length_map] at h5 ⊢
    exact shutD_ok h5 fun w' h6 => .inl h6.right.right
  · intro D c w5 h5
    have h5 := h5.perm (B := prop (c = .ret) * (markH D * (Bx * F))) (by first | ac_rfl | (dsimp only; ac_rfl))
    obtain rfl := h5.prop
    exact jmp_ret <| shutD_ok h5.right fun w' h6 => .inr h6

/-! ### all of them, as far as so many -/
def HA1 (k1 k2 : Nat) (most : Int) (ps : List Int) (Q : HP) (j : Nat) : HP := ex fun p => ex fun c =>
  prop ((j : Int) ≤ max most 0) * (blk k1 #[.int .i64 most] 3 * (blk k2 #[.slice p j c] 28 * (tab T_uint64 1 fU64 p j c (ps.take j) * Q)))
section
variable {w : World} {k1 k2 : Nat} {most : Int} {ps : List Int} {Q F : HP} {j : Nat}
theorem HA1.open_ (h : Sat w₀ (HA1 k1 k2 most ps Q j * F) w) : (j : Int) ≤ max most 0 ∧ ∃ p c, Sat w₀ (blk k1 #[.int .i64 most] 3 * (blk k2 #[.slice p j c] 28 * (tab T_uint64 1 fU64 p j c (ps.take j) * (Q * F)))) w := by
  obtain ⟨p, h⟩ := Sat.ex h
  obtain ⟨c, h⟩ := Sat.ex h
  have h := h.perm (B := prop ((j : Int) ≤ max most 0) * (blk k1 #[.int .i64 most] 3 * (blk k2 #[.slice p j c] 28 * (tab T_uint64 1 fU64 p j c (ps.take j) * (Q * F))))) (by ac_rfl)
  exact ⟨h.prop, p, c, h.right⟩
theorem HA1.shut {p : Option Addr} {c : Nat} (hj : (j : Int) ≤ max most 0) (h : Sat w₀ (blk k1 #[.int .i64 most] 3 * (blk k2 #[.slice p j c] 28 * (tab T_uint64 1 fU64 p j c (ps.take j) * (Q * F)))) w) :
    Sat w₀ (HA1 k1 k2 most ps Q j * F) w :=
  Sat.to_ex p (Sat.to_ex c ((h.add_prop hj).perm (by ac_rfl)))
end
theorem all_ok {w : World} {F Q : HP} {x0 : Option Addr} {ps : List Int} {most : Int} (hn : ps.length ≤ 65536)
    (hit : ∀ k (Pre : Nat → HP), (∀ w, Sat w₀ (Pre 0) w → Sat w₀ (blk k #[.pointer x0] 23) w) → (∀ w, Sat w₀ (Pre 0) w → Sat w₀ Q w) → IterC Try.prog w₀ fn_heap_Heap_All_1 #[.pointer (some ⟨k, 0, none⟩)] Pre (ps.map enc1))
    (h : Sat w₀ (Q * F) w) :
    call Try.prog fn_tenonlaw11_all #[.pointer x0, .int .i64 most] w fun v w' => ∃ p m c, v = .slice p m c ∧ m = min ps.length most.toNat ∧ Sat w₀ (tab T_uint64 1 fU64 p m c (ps.take m) * (Q * F)) w' := by
  apply tenonlaw11_all_call
  unfold tenonlaw11_all
  refine new_ok h fun k1 w1 h1 => new_ok h1 fun k2 w2 h2 => call_mono (heap_All_ok h2) ?_
  rintro _ w4 ⟨k, rfl, h4⟩
  let Q' : HP := blk k #[.pointer x0] 23 * (Q * F)
  have fin : ∀ {j D w}, Sat w₀ (markH D * HA1 k1 k2 most ps Q' j) w → j = min ps.length most.toNat →
      ldS (⟨k2, 0, none⟩ : Addr) w fun p21 l21 c21 => shutD D w fun w13 =>
        (fun v w' => ∃ p m c, v = Value.slice p m c ∧ m = min ps.length most.toNat ∧ Sat w₀ (tab T_uint64 1 fU64 p m c (ps.take m) * (Q * F)) w') (Value.slice p21 l21 c21) w13 := by
    intro j D w h5 hj
    obtain ⟨hjm, p, c, h6⟩ := HA1.open_ (h5.e1)
    refine ldS_ok (h6.right.left.cell (i := 0) rfl) ?_
    have h7 := h6.perm (B := markH D * ((blk k1 #[.int .i64 most] 3 * (blk k2 #[.slice p j c] 28 * blk k #[.pointer x0] 23)) * (tab T_uint64 1 fU64 p j c (ps.take j) * (Q * F)))) (by simp only [Q']; ac_rfl)
    exact shutD_ok h7 fun w' h8 => ⟨p, j, c, rfl, hj, h8.right⟩
  have hA0 : Sat w₀ (HA1 k1 k2 most ps Q' 0 * emp) w4 :=
    HA1.shut (p := none) (c := 0) (by simp; omega) ((tab_nil T_uint64 1 fU64 (h4.with_emp)).perm (by
      simp only [List.take_zero, Q']
      show tab T_uint64 1 fU64 none 0 0 [] * (emp * (blk k #[.pointer x0] 23 * (blk k2 _ 28 * (blk k1 _ 3 * (Q * F))))) = _
      ac_rfl))
  refine asF_ok ⟨w₀, fn_heap_Heap_All_1, _, ps.map enc1, HA1 k1 k2 most ps Q', fun c => ex fun j => prop (c = .exit 0 ∧ j = min ps.length most.toNat) * HA1 k1 k2 most ps Q' j,
    rfl, ⟨_, _, Try.func58, rfl⟩, hA0.left, ?_, hit k _ (fun w h => ?_) (fun w h => ?_), ?_, ?_, ?_⟩
  · intro z hz
    obtain ⟨y, _, rfl⟩ := List.mem_map.1 hz
    rfl
  · obtain ⟨_, p, c, h⟩ := HA1.open_ (h.with_emp.e1)
    exact h.right.right.right.left.left
  · obtain ⟨_, p, c, h⟩ := HA1.open_ (h.with_emp.e1)
    exact h.right.right.right.left.right.left
  · intro j z hz G G' T w5 hT' h5
    rw [List.getElem?_map] at hz
    obtain ⟨y, hy, rfl⟩ := Option.map_eq_some_iff.1 hz
    have hlt := (List.getElem?_eq_some_iff.1 hy).1
    refine ⟨_, rfl, hT' (HA1 k1 k2 most ps Q' j) _ _ h5 fun w8 h8 => ?_⟩
    obtain ⟨hjm, p, c, h6⟩ := HA1.open_ h8
    refine ldS_ok (h6.right.left.cell (i := 0) rfl) <| ldI_ok (h6.left.cell (i := 0) rfl) <| br_dec (fun hge => ?_) (fun hlt2 => ?_)
    · have hj : j = min ps.length most.toNat := by omega
      exact Sat.to_ex j (((HA1.shut hjm h6).add_prop (p := Code.exit 0 = Code.exit 0 ∧ j = min ps.length most.toNat) ⟨rfl, hj⟩).perm (by ac_rfl))
    · have e2 : ps.take (j + 1) = ps.take j ++ [y] := by rw [List.take_add_one, hy]; rfl
      refine ldS_ok (h6.right.left.cell (i := 0) rfl) <| new_ok h6 fun k18 w9 h10 => ?_
      refine tab_app u64sTy fU64_len (by decide) fU64_one (x := y) (h10.perm (B := blk k18 #[.int .u64 y] 29 * (tab T_uint64 1 fU64 p j c (ps.take j) * (blk k2 #[.slice p j c] 28 * (blk k1 #[.int .i64 most] 3 * (Q' * G'))))) (by ac_rfl)) rfl (by simp only [maxLen]; omega) (by omega) fun p' c' w10 h11 => ?_
      refine st_ok (i := 0) h11.p1 (by simp) fun w11 h12 => ?_
      refine HA1.shut (p := p') (c := c') (by omega) ((h12.perm (B := blk k1 #[.int .i64 most] 3 * (blk k2 #[.slice p' (j + 1) c'] 28 * (tab T_uint64 1 fU64 p' (j + 1) c' (ps.take j ++ [y]) * (Q' * G')))) (by
        show blk k2 #[.slice p' (j + 1) c'] 28 * _ = _
        ac_rfl)).perm ?_)
      rw [e2]
  · intro D w5 h5
    rw [List.length_map] at h5
    obtain ⟨hjm, _⟩ := HA1.open_ (h5.e1)
    exact fin h5 (by omega)
  · intro D c w5 h5
    have h5 := h5.e1
    obtain ⟨j, h5⟩ := Sat.ex h5
    obtain ⟨rfl, hj⟩ := (h5.perm (B := prop (c = .exit 0 ∧ j = min ps.length most.toNat) * (HA1 k1 k2 most ps Q' j * markH D)) (by ac_rfl)).prop
    have h6 : Sat w₀ (markH D * HA1 k1 k2 most ps Q' j) w5 := (h5.perm (B := prop (Code.exit 0 = .exit 0 ∧ j = min ps.length most.toNat) * (markH D * HA1 k1 k2 most ps Q' j)) (by ac_rfl)).right
    exact jmp_exit (fin h6 hj)
/-- All objects' handles, by rising places. -/
theorem heap_all_ok {w : World} {F : HP} {most : Int} (hh : Sat w₀ (HH b a top P S * F) w) (ho : AOk S) (hm : S.most ≤ 65536) :
    call Try.prog fn_tenonlaw11_all #[.pointer (some ⟨b, 0, none⟩), .int .i64 most] w fun v w' => ∃ p m c, v = .slice p m c ∧ m = min (allFrom 0 S.sp).length most.toNat ∧ Sat w₀ (tab T_uint64 1 fU64 p m c ((allFrom 0 S.sp).take m) * (HH b a top P S * F)) w' := by
  have h1 := all_cnt ho
  have h2 := cnt_le ho
  exact all_ok (by omega) (fun k Pre hP hQ => hAll_iter ho hP hQ) hh
theorem nil_all_ok {w : World} {F : HP} {most : Int} (hh : Sat w₀ F w) :
    call Try.prog fn_tenonlaw11_all #[.pointer none, .int .i64 most] w fun v w' => ∃ p c, v = .slice p 0 c ∧ Sat w₀ F w' := by
  refine call_mono (all_ok (Q := emp) (ps := []) (by simp) (fun k Pre hP hQ => hAll_nil hP) hh.with_emp) ?_
  rintro _ w1 ⟨p, m, c, rfl, hm, h1⟩
  have : m = 0 := by simpa using hm
  subst this
  exact ⟨p, c, rfl, h1.right.right⟩
end
end Go.Proofs.Ytgchemgnmijpdaa
