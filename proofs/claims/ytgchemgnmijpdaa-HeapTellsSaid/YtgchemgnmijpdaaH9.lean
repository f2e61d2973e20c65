/- Contracts of layer 11 (heap): going over slots. No conditions. -/
import Derived.Test.YtgchemgnmijpdaaH8
set_option linter.unusedVariables false
set_option linter.unusedSimpArgs false
set_option maxRecDepth 100000
namespace Go.Proofs.Ytgchemgnmijpdaa
open Go.Sp Go.RowKit

section
variable {w₀ w : World} {F : HP} {b a : Nat} {top : Int} {P : PM} {S : HS}
theorem new_rd {cs : Array Value} {t : TypeId} {K : Nat → World → Prop} (h : Sat w₀ F w) (hk : ∀ b w', Sat w₀ (blk b cs t * F) w' → (∀ {sz : Nat} {p : Option Addr} {l : Nat} {xs : List Value}, Rd w sz p l xs → Rd w' sz p l xs) → K b w') : new cs t w K :=
  hk _ _ (h.alloc _) fun hx => hx.old ((Sat.start w).alloc _).right
theorem slices_Clone1_at {p : Option Addr} {c : Nat} {l : List (Int × Int)} (h : Sat w₀ F w) (hx : Rd w 2 p l.length (l.flatMap lnF)) (hl : l.length ≤ 1000000) :
    call Try.prog fn_slices_Clone_1 #[.slice p l.length c] w fun v w' => ∃ q d, v = .slice q l.length d ∧ Sat w₀ (tab T_api_Link 2 lnF q l.length d l * F) w' := by
  apply slices_Clone_1_call
  unfold slices_Clone_1
  refine br_split (fun hn => ?_) (fun hn => ?_)
  · have hp : p = none := by cases p with | none => rfl | some a => simp at hn
    have h0 : l = [] := by
      apply List.eq_nil_of_length_eq_zero
      rcases Nat.eq_zero_or_pos l.length with h0 | h0
      · exact h0
      · obtain ⟨a, e⟩ := hx.2.1 h0
        rw [hp] at e; cases e
    subst h0
    exact ⟨none, 0, rfl, tab_nil _ _ _ h⟩
  · refine new_rd h fun k1 w1 h1 keep => ?_
    have h2 := h1.own_full (t := T_api_Link) (sz := 2) (n := 0) rfl (by decide)
    have hold : Rd w1 2 p l.length (l.flatMap lnF) := keep hx
    refine app_ok linksTy h2 hold (fun u hu => ?_) (by simp only [maxLen]; omega) (by omega) fun p' c' w' h3 => ?_
    · exact tab_mem lnF_one u hu
    · rw [Nat.zero_add]
      refine ⟨p', c', rfl, ?_⟩
      rw [Nat.zero_add] at h3
      exact h3
theorem heap_Links_ok {x : Option Addr} {h : Int} (hh : Sat w₀ F w) :
    call Try.prog fn_heap_Heap_Links #[.pointer x, .int .u64 h] w fun v w' => ∃ k k', v = .func (.func fn_heap_Heap_Links_1) #[] #[.pointer (some ⟨k, 0, none⟩), .pointer (some ⟨k', 0, none⟩)] ∧ Sat w₀ (blk k' #[.int .u64 h] 29 * (blk k #[.pointer x] 23 * F)) w' := by
  apply heap_Heap_Links_call
  unfold heap_Heap_Links
  exact new_ok hh fun k w1 h1 => new_ok h1 fun k' w2 h2 => ⟨k, k', rfl, h2⟩
def encL (q : (Int × Int) × Nat) : Array Value := #[.int .i64 q.2, .agg (lnA q.1)]
theorem hLinks_none {k k' : Nat} {x : Option Addr} {h : Int} {Pre : Nat → HP} (hP : ∀ w, Sat w₀ (Pre 0) w → Sat w₀ (blk k #[.pointer x] 23) w) (hP' : ∀ w, Sat w₀ (Pre 0) w → Sat w₀ (blk k' #[.int .u64 h] 29) w)
    (hG : ∀ w F, Sat w₀ (Pre 0 * F) w → call Try.prog fn_heap_Heap_find #[.pointer x, .int .u64 h] w fun v w' => w' = w ∧ v = .tuple #[.pointer none, .int .i64 2]) :
    IterC Try.prog w₀ fn_heap_Heap_Links_1 #[.pointer (some ⟨k, 0, none⟩), .pointer (some ⟨k', 0, none⟩)] Pre [] := by
  intro f f2 f3 B Bx hok hB hy F w hh
  show call Try.prog _ #[.func f f2 f3, .pointer (some ⟨k, 0, none⟩), .pointer (some ⟨k', 0, none⟩)] w _
  apply heap_Heap_Links_1_call
  unfold heap_Heap_Links_1
  have hb := hB 0 _ hh.left
  refine ldP_ok ((hP _ hb).cell (i := 0) rfl) <| ldI_ok ((hP' _ hb).cell (i := 0) rfl) <| call_mono (hG w emp hb.with_emp.e1) ?_
  rintro _ w1 ⟨rfl, rfl⟩
  exact ⟨_, _, rfl, br_true rfl (.inl hh)⟩
theorem hLinks_iter {k k' : Nat} {h : Int} {o : OM} {Pre : Nat → HP} (hs : HBase top S) (hp : pay S h = some o) (hP : ∀ w, Sat w₀ (Pre 0) w → Sat w₀ (blk k #[.pointer (some ⟨b, 0, none⟩)] 23) w) (hP' : ∀ w, Sat w₀ (Pre 0) w → Sat w₀ (blk k' #[.int .u64 h] 29) w)
    (hG : ∀ w, Sat w₀ (Pre 0) w → Sat w₀ (HH b a top P S) w) :
    IterC Try.prog w₀ fn_heap_Heap_Links_1 #[.pointer (some ⟨k, 0, none⟩), .pointer (some ⟨k', 0, none⟩)] Pre (o.ln.zipIdx.map encL) := by
  intro f f2 f3 B Bx hok hB hy F w hh
  show call Try.prog _ #[.func f f2 f3, .pointer (some ⟨k, 0, none⟩), .pointer (some ⟨k', 0, none⟩)] w _
  apply heap_Heap_Links_1_call
  unfold heap_Heap_Links_1
  have hb := hB 0 _ hh.left
  have hr := pay_range hs.ok hp
  have hlen := (hs.rng h o hp).len
  have hH := (hG _ hb).with_emp.e1
  refine ldP_ok ((hP _ hb).cell (i := 0) rfl) <| ldI_ok ((hP' _ hb).cell (i := 0) rfl) <| call_mono (hfind_ok hH hs.ok (by omega) hr.2) ?_
  rintro _ w1 ⟨rfl, ⟨hp', rfl⟩ | ⟨kk, o', hp', hk, rfl⟩⟩
  · rw [hp] at hp'; cases hp'
  rw [hp] at hp'
  cases hp'
  obtain ⟨k2, L, R, hk2, h3, _⟩ := HH.at hH hs.ok hp
  rw [hk] at hk2
  cases hk2
  have hrd : Rd w1 2 L.pl o.ln.length (o.ln.flatMap lnF) := Sat.rd (t := T_api_Link) (c := L.cl) (show Sat w₀ (own T_api_Link 2 L.pl o.ln.length L.cl (o.ln.flatMap lnF)) w1 from
    (show Sat w₀ (blk kk (oA o L) T_heap_object * (tab T_api_Link 2 lnF L.pl o.ln.length L.cl o.ln * tab T_uint64 1 fU64 L.pi o.inn.length L.ci o.inn)) w1 from h3.left).right.left)
  refine ⟨_, _, rfl, br_false rfl <| nn_ok <| ldS_ok (obj_cell h3 (i := 3) rfl) <| call_mono (slices_Clone1_at (c := L.cl) hh hrd (by omega)) ?_⟩
  rintro _ w2 ⟨q, d, rfl, h4⟩
  refine asS_ok ⟨fun n w m => 0 ≤ n ∧ n ≤ o.ln.length ∧ m = o.ln.length - n.toNat ∧ Sat w₀ (tab T_api_Link 2 lnF q o.ln.length d o.ln * (B n.toNat * F)) w, ⟨_, by omega, by omega, rfl, h4⟩, ?_⟩
  rintro u n w3 m ⟨n0, nl, rfl, h5⟩
  refine br_dec (fun hlt => ?_) (fun hge => .inl ?_)
  · have hi : n.toNat < o.ln.length := by omega
    obtain ⟨x, hx⟩ : ∃ x, o.ln[n.toNat]? = some x := ⟨_, List.getElem?_eq_getElem hi⟩
    refine tab_idx lnF_len h5.left (by decide) n0 hx fun g hg => tab_ldA0 lnF_len h5.left hg hx <| new_ok h5 fun k17 w4 h6 => stA_ok h6 rfl rfl (lnA_one x) fun w5 h7 => ?_
    have h7 : Sat w₀ (blk k17 (lnA x) 35 * (tab T_api_Link 2 lnF q o.ln.length d o.ln * (B n.toNat * F))) w5 := h7
    have hz : (o.ln.zipIdx.map encL)[n.toNat]? = some #[.int .i64 n, .agg (lnA x)] := by
      rw [List.getElem?_map, List.getElem?_zipIdx, hx]
      show some (encL (x, 0 + n.toNat)) = _
      rw [encL]
      congr 3
      show Value.int .i64 ((0 + n.toNat : Nat) : Int) = _
      congr 1
      omega
    refine ldA_blk0 h7 rfl <| callV_mono (hy n.toNat _ hz (blk k17 (lnA x) 35 * (tab T_api_Link 2 lnF q o.ln.length d o.ln * F)) _ (h7.perm (by ac_rfl))) ?_
    rintro v w9 (⟨rfl, h10⟩ | ⟨rfl, h10⟩)
    · refine asB_ok <| br_false rfl <| arith_i64 (by omega) (by omega) ⟨_, ?_, by omega, by omega, rfl, ?_⟩
      · omega
      · rw [show (n + 1).toNat = n.toNat + 1 by omega]
        exact (h10.perm (B := blk k17 (lnA x) 35 * (tab T_api_Link 2 lnF q o.ln.length d o.ln * (B (n.toNat + 1) * F))) (by ac_rfl)).right
    · exact asB_ok <| br_true rfl <| .inr (h10.perm (B := (blk k17 (lnA x) 35 * tab T_api_Link 2 lnF q o.ln.length d o.ln) * (Bx * F)) (by ac_rfl)).right
  · have e : n.toNat = (o.ln.zipIdx.map encL).length := by rw [List.length_map, List.length_zipIdx]; omega
    rw [← e]
    exact h5.right

/-! ### an object's slots, as far as so many -/
def HL1 (k1 k2 : Nat) (most : Int) (ps : List (Int × Int)) (Q : HP) (j : Nat) : HP := ex fun p => ex fun c =>
  prop ((j : Int) ≤ max most 0) * (blk k1 #[.int .i64 most] 3 * (blk k2 #[.slice p j c] 78 * (tab T_api_Link 2 lnF p j c (ps.take j) * Q)))
section
variable {k1 k2 : Nat} {most : Int} {ps : List (Int × Int)} {Q : HP} {j : Nat}
theorem HL1.open_ (h : Sat w₀ (HL1 k1 k2 most ps Q j * F) w) : (j : Int) ≤ max most 0 ∧ ∃ p c, Sat w₀ (blk k1 #[.int .i64 most] 3 * (blk k2 #[.slice p j c] 78 * (tab T_api_Link 2 lnF p j c (ps.take j) * (Q * F)))) w := by
  obtain ⟨p, h⟩ := Sat.ex h
  obtain ⟨c, h⟩ := Sat.ex h
  have h := h.perm (B := prop ((j : Int) ≤ max most 0) * (blk k1 #[.int .i64 most] 3 * (blk k2 #[.slice p j c] 78 * (tab T_api_Link 2 lnF p j c (ps.take j) * (Q * F))))) (by ac_rfl)
  exact ⟨h.prop, p, c, h.right⟩
theorem HL1.shut {p : Option Addr} {c : Nat} (hj : (j : Int) ≤ max most 0) (h : Sat w₀ (blk k1 #[.int .i64 most] 3 * (blk k2 #[.slice p j c] 78 * (tab T_api_Link 2 lnF p j c (ps.take j) * (Q * F)))) w) :
    Sat w₀ (HL1 k1 k2 most ps Q j * F) w :=
  Sat.to_ex p (Sat.to_ex c ((h.add_prop hj).perm (by ac_rfl)))
end
theorem links_any {Q : HP} {x0 : Option Addr} {h : Int} {ps : List (Int × Int)} {most : Int} (hn : ps.length ≤ 65536)
    (hit : ∀ k k' (Pre : Nat → HP), (∀ w, Sat w₀ (Pre 0) w → Sat w₀ (blk k #[.pointer x0] 23) w) → (∀ w, Sat w₀ (Pre 0) w → Sat w₀ (blk k' #[.int .u64 h] 29) w) → (∀ w, Sat w₀ (Pre 0) w → Sat w₀ Q w) → IterC Try.prog w₀ fn_heap_Heap_Links_1 #[.pointer (some ⟨k, 0, none⟩), .pointer (some ⟨k', 0, none⟩)] Pre (ps.zipIdx.map encL))
    (hh : Sat w₀ (Q * F) w) :
    call Try.prog fn_tenonlaw11_links #[.pointer x0, .int .u64 h, .int .i64 most] w fun v w' => ∃ p m c, v = .slice p m c ∧ m = min ps.length most.toNat ∧ Sat w₀ (tab T_api_Link 2 lnF p m c (ps.take m) * (Q * F)) w' := by
  apply tenonlaw11_links_call
  unfold tenonlaw11_links
  refine new_ok hh fun k1 w1 h1 => new_ok h1 fun k2 w2 h2 => call_mono (heap_Links_ok h2) ?_
  rintro _ w4 ⟨k, k', rfl, h4⟩
  let Q' : HP := blk k' #[.int .u64 h] 29 * (blk k #[.pointer x0] 23 * (Q * F))
  have fin : ∀ {j D w}, Sat w₀ (markH D * HL1 k1 k2 most ps Q' j) w → j = min ps.length most.toNat →
      ldS (⟨k2, 0, none⟩ : Addr) w fun p21 l21 c21 => shutD D w fun w13 =>
        (fun v w' => ∃ p m c, v = Value.slice p m c ∧ m = min ps.length most.toNat ∧ Sat w₀ (tab T_api_Link 2 lnF p m c (ps.take m) * (Q * F)) w') (Value.slice p21 l21 c21) w13 := by
    intro j D w h5 hj
    obtain ⟨hjm, p, c, h6⟩ := HL1.open_ (h5.e1)
    refine ldS_ok (h6.right.left.cell (i := 0) rfl) ?_
    have h7 := h6.perm (B := markH D * ((blk k1 #[.int .i64 most] 3 * (blk k2 #[.slice p j c] 78 * (blk k' #[.int .u64 h] 29 * blk k #[.pointer x0] 23))) * (tab T_api_Link 2 lnF p j c (ps.take j) * (Q * F)))) (by simp only [Q']; ac_rfl)
    exact shutD_ok h7 fun w' h8 => ⟨p, j, c, rfl, hj, h8.right⟩
  have hA0 : Sat w₀ (HL1 k1 k2 most ps Q' 0 * emp) w4 :=
    HL1.shut (p := none) (c := 0) (by simp; omega) ((tab_nil T_api_Link 2 lnF (h4.with_emp)).perm (by
      simp only [List.take_zero, Q']
      show tab T_api_Link 2 lnF none 0 0 [] * (emp * (blk k' #[.int .u64 h] 29 * (blk k #[.pointer x0] 23 * (blk k2 _ 78 * (blk k1 _ 3 * (Q * F)))))) = _
      ac_rfl))
  have zget : ∀ (i : Nat), (ps.zipIdx.map encL)[i]? = (ps[i]?).map fun x => encL (x, i) := fun i => by
    rw [List.getElem?_map, List.getElem?_zipIdx, Option.map_map]
    congr 1
    funext x
    show encL (x, 0 + i) = _
    rw [Nat.zero_add]
  refine asF_ok ⟨w₀, fn_heap_Heap_Links_1, _, ps.zipIdx.map encL, HL1 k1 k2 most ps Q', fun c => ex fun j => prop (c = .exit 0 ∧ j = min ps.length most.toNat) * HL1 k1 k2 most ps Q' j,
    rfl, ⟨_, _, Try.func62, rfl⟩, hA0.left, ?_, hit k k' _ (fun w h => ?_) (fun w h => ?_) (fun w h => ?_), ?_, ?_, ?_⟩
  · intro z hz
    obtain ⟨y, _, rfl⟩ := List.mem_map.1 hz
    rfl
  · obtain ⟨_, p, c, h⟩ := HL1.open_ (h.with_emp.e1)
    exact h.right.right.right.left.right.left
  · obtain ⟨_, p, c, h⟩ := HL1.open_ (h.with_emp.e1)
    exact h.right.right.right.left.left
  · obtain ⟨_, p, c, h⟩ := HL1.open_ (h.with_emp.e1)
    exact h.right.right.right.left.right.right.left
  · intro j z hz G G' T w5 hT' h5
    rw [zget] at hz
    obtain ⟨y, hy, rfl⟩ := Option.map_eq_some_iff.1 hz
    have hlt := (List.getElem?_eq_some_iff.1 hy).1
    refine ⟨_, _, rfl, new_ok h5 fun k11 w6 h6 => stA_ok h6 rfl rfl (lnA_one y) fun w7 h7 => hT' (blk k11 (lnA y) 35 * HL1 k1 k2 most ps Q' j) _ _ (h7.perm (by
      show blk k11 _ 35 * _ = _
      ac_rfl)) fun w8 h8 => ?_⟩
    obtain ⟨hjm, p, c, h6⟩ := HL1.open_ (h8.perm (B := HL1 k1 k2 most ps Q' j * (blk k11 (lnA y) 35 * G')) (by ac_rfl))
    refine ldS_ok (h6.right.left.cell (i := 0) rfl) <| ldI_ok (h6.left.cell (i := 0) rfl) <| br_dec (fun hge => ?_) (fun hlt2 => ?_)
    · have hj : j = min ps.length most.toNat := by omega
      exact Sat.to_ex j ((((HL1.shut hjm h6).add_prop (p := Code.exit 0 = Code.exit 0 ∧ j = min ps.length most.toNat) ⟨rfl, hj⟩).perm (B := blk k11 (lnA y) 35 * ((prop (Code.exit 0 = Code.exit 0 ∧ j = min ps.length most.toNat) * HL1 k1 k2 most ps Q' j) * G')) (by ac_rfl)).right)
    · have e2 : ps.take (j + 1) = ps.take j ++ [y] := by rw [List.take_add_one, hy]; rfl
      have h9 := h6.perm (B := blk k11 (lnA y) 35 * (blk k1 #[.int .i64 most] 3 * (blk k2 #[.slice p j c] 78 * (tab T_api_Link 2 lnF p j c (ps.take j) * (Q' * G'))))) (by ac_rfl)
      refine ldS_ok (h6.right.left.cell (i := 0) rfl) <| br_false (by simp) <| ldS_ok (h6.right.left.cell (i := 0) rfl) <| ldA_blk0 h9 rfl ⟨rfl, new_ok h9 fun k17 w9 h10 => ?_⟩
      refine tab_app linksTy lnF_len (by decide) lnF_one (x := y) (h10.perm (B := blk k17 (lnA y) 35 * (tab T_api_Link 2 lnF p j c (ps.take j) * (blk k2 #[.slice p j c] 78 * (blk k1 #[.int .i64 most] 3 * (blk k11 (lnA y) 35 * (Q' * G')))))) (by ac_rfl)) rfl (by simp only [maxLen]; omega) (by omega) fun p' c' w10 h11 => ?_
      refine st_ok (i := 0) h11.p1 (by simp) fun w11 h12 => ?_
      refine HL1.shut (p := p') (c := c') (by omega) ((h12.perm (B := blk k11 (lnA y) 35 * (blk k1 #[.int .i64 most] 3 * (blk k2 #[.slice p' (j + 1) c'] 78 * (tab T_api_Link 2 lnF p' (j + 1) c' (ps.take j ++ [y]) * (Q' * G'))))) (by
        show blk k2 #[.slice p' (j + 1) c'] 78 * _ = _
        ac_rfl)).right.perm ?_)
      rw [e2]
  · intro D w5 h5
    rw [List.length_map, List.length_zipIdx] at h5
    obtain ⟨hjm, _⟩ := HL1.open_ (h5.e1)
    exact fin h5 (by omega)
  · intro D c w5 h5
    have h5 := h5.e1
    obtain ⟨j, h5⟩ := Sat.ex h5
    obtain ⟨rfl, hj⟩ := (h5.perm (B := prop (c = .exit 0 ∧ j = min ps.length most.toNat) * (HL1 k1 k2 most ps Q' j * markH D)) (by ac_rfl)).prop
    have h6 : Sat w₀ (markH D * HL1 k1 k2 most ps Q' j) w5 := (h5.perm (B := prop (Code.exit 0 = .exit 0 ∧ j = min ps.length most.toNat) * (markH D * HL1 k1 k2 most ps Q' j)) (by ac_rfl)).right
    exact jmp_exit (fin h6 hj)
theorem heap_links_ok {h : Int} {most : Int} (hh : Sat w₀ (HH b a top P S * F) w) (hs : HBase top S) (h0 : 0 ≤ h) (h1 : h ≤ 18446744073709551615) :
    call Try.prog fn_tenonlaw11_links #[.pointer (some ⟨b, 0, none⟩), .int .u64 h, .int .i64 most] w fun v w' => ∃ p m c, v = .slice p m c ∧ m = min (lnOf S h).length most.toNat ∧ Sat w₀ (tab T_api_Link 2 lnF p m c ((lnOf S h).take m) * (HH b a top P S * F)) w' := by
  cases hp : pay S h with
  | none =>
    have e : lnOf S h = [] := by rw [lnOf, hp]
    rw [e]
    refine links_any (by simp) (fun k k' Pre hP hP' hQ => hLinks_none hP hP' fun w F hb => ?_) hh
    refine call_mono (hfind_ok (hQ _ hb.left).with_emp.e1 hs.ok h0 h1) ?_
    rintro _ w1 ⟨rfl, ⟨_, rfl⟩ | ⟨k2, o, hp', _⟩⟩
    · exact ⟨rfl, rfl⟩
    · rw [hp] at hp'; cases hp'
  | some o =>
    have e : lnOf S h = o.ln := by rw [lnOf, hp]
    rw [e]
    have := (hs.rng h o hp).len
    exact links_any (by omega) (fun k k' Pre hP hP' hQ => hLinks_iter hs hp hP hP' hQ) hh
end
end Go.Proofs.Ytgchemgnmijpdaa
