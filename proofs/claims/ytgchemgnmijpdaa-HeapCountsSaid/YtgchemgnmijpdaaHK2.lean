/- HeapCounts: laying; counting. No conditions. -/
import Derived.Test.YtgchemgnmijpdaaHK1
import Derived.Test.YtgchemgnmijpdaaHAct
set_option linter.unusedVariables false
set_option linter.unusedSimpArgs false
set_option maxRecDepth 100000
namespace Go.Proofs.Ytgchemgnmijpdaa
open Go.Sp Go.RowKit

theorem bitA (x : Int) : bitw .and .i64 x 1 = 0 ∨ bitw .and .i64 x 1 = 1 := by
  have e : bitw .and .i64 x 1 = IntKind.i64.wrap ((BitVec.ofInt 64 x &&& BitVec.ofInt 64 1).toNat : Nat) := rfl
  have e1 : (BitVec.ofInt 64 x &&& BitVec.ofInt 64 1).toNat = (BitVec.ofInt 64 x).toNat % 2 := by
    rw [BitVec.toNat_and]
    have : (BitVec.ofInt 64 1).toNat = 1 := by decide
    rw [this, Nat.and_one_is_mod]
  rw [e, e1]
  have : (BitVec.ofInt 64 x).toNat % 2 = 0 ∨ (BitVec.ofInt 64 x).toNat % 2 = 1 := by omega
  rcases this with h | h <;> rw [h]
  · exact .inl (by decide)
  · exact .inr (by decide)
def fInt (n : Int) : List Value := [.int .i64 n]
theorem fInt_len (n : Int) : (fInt n).length = 1 := rfl
theorem fInt_one (n : Int) : ∀ u ∈ fInt n, u.oneCell' = true := by simp [fInt, Value.oneCell']
theorem Was.range {α : Type} {s : AS α} {h : Int} (hs : AOk s) (hw : Was s h) : 0 ≤ h ∧ h ≤ 18446744073709551615 := by
  obtain ⟨i, g, y, rfl, hy, h0, h1, _⟩ := hw
  have hlt := (List.getElem?_eq_some_iff.1 hy).1
  have hg := hs.g y (List.mem_of_getElem? hy)
  have hl := hs.len
  have hm := hs.most1
  exact hd_range (by omega) h0 (by omega)
theorem rf_le {top : Int} {S : HS} (hs : HBase top S) : ∀ (H : List Int) (x : Int), (rf S H x : Int) ≤ 8 * H.length
  | [], x => by simp [rf]
  | h :: H, x => by
    have h1 := rf_le hs H x
    have h2 : (lnOf S h).length ≤ 8 := by
      unfold lnOf
      split
      · rename_i o hp; exact (hs.rng h o hp).len
      · simp
    have h3 : (lnOf S h).count (1, x) ≤ (lnOf S h).length := List.count_le_length
    rw [rf_cons, List.length_cons]
    omega
theorem map_updI {out : Int → Int} {v : Int} : ∀ {H : List Int} {i : Nat} {h : Int}, H.Nodup → H[i]? = some h → H.map (updI out h v) = (H.map out).set i v
  | [], i, h, _, e => by simp at e
  | a :: H, 0, h, hn, e => by
    have e : a = h := by simpa using e
    subst e
    rw [List.nodup_cons] at hn
    rw [List.map_cons, List.map_cons, List.set_cons_zero, updI, if_pos rfl]
    congr 1
    apply List.map_congr_left
    intro x hx
    rw [updI, if_neg (show ¬ x = a from fun e => hn.1 (e ▸ hx))]
  | a :: H, i + 1, h, hn, e => by
    rw [List.nodup_cons] at hn
    have e : H[i]? = some h := by simpa using e
    have hm := List.mem_of_getElem? e
    rw [List.map_cons, List.map_cons, List.set_cons_succ, map_updI (H := H) hn.2 e, updI, if_neg (show ¬ a = h from fun e => hn.1 (e ▸ hm))]
section
variable {S : HS} {H : List Int} {out : Int → Int}
theorem CI.put (hc : CI S H out []) (hb : ∀ h o, pay S h = some o → o.cn < 1048576) {h k : Int} {o q : OM} (hp : pay S h = some o) (hk : pay S k = some q) {n : Int} (hn : n = 0 ∨ n = 1) :
    (putM 1048576 S h n (1, k)).1 = 0 ∧ CI (putM 1048576 S h n (1, k)).2.1 H out [] ∧ WtOk (putM 1048576 S h n (1, k)).2.1 (putM 1048576 S h n (1, k)).2.2.1 ∧ (putM 1048576 S h n (1, k)).2.1.most = S.most := by
  obtain ⟨e1, hc1, _⟩ := hc.held hk (hb k q hk)
  have hkr := pay_range hc.inv.ok hk
  obtain ⟨o1, hp1, hln, _⟩ := upM_pay (top := 1048576) (h := k) hc.inv.ok hp
  have hM := (upM_inv (top := 1048576) (h := k) hc.inv).2.2
  rw [e1] at hp1 hM
  dsimp only at hp1 hM
  obtain ⟨m, rfl⟩ : ∃ m : Nat, n = m := ⟨n.toNat, by omega⟩
  have hl2 := hc.len h o hp
  have hm : m < o1.ln.length := by rw [hln, hl2]; omega
  obtain ⟨y, hy⟩ : ∃ y, o1.ln[m]? = some y := ⟨_, List.getElem?_eq_getElem hm⟩
  have hyd : o1.ln.getD m (0, 0) = y := by simp [List.getD, hy]
  have e : putM 1048576 S h m (1, k) = (0, letM (upA (upA S k { q with cn := q.cn + 1 }) h { o1 with ln := o1.ln.set m (1, k) }) [] [] y) := by
    rw [putM, hp]
    dsimp only
    rw [if_neg (by simp [rightB]; omega), if_pos rfl, e1]
    dsimp only
    rw [if_neg (by simp), layM, hp1]
    dsimp only
    rw [Int.toNat_natCast, hyd]
  rw [e]
  obtain ⟨q1, q2, q3⟩ := (hc1.slot ⟨by omega, hkr.2⟩ hp1 hy).let_ (fo := []) WtOk.nil
  exact ⟨rfl, q1, q2, q3.trans ((up_most _ _ _).trans hM)⟩
theorem CI.dn (hc : CI S H out []) {h : Int} {o : OM} (hp : pay S h = some o) (ho : 0 < out h) :
    (dnM S h).1 = 0 ∧ CI (dnM S h).2.1 H (updI out h (out h - 1)) [] ∧ WtOk (dnM S h).2.1 (dnM S h).2.2.1 ∧ (dnM S h).2.1.most = S.most := by
  have e : dnM S h = (0, letM S [] [] (1, h)) := by rw [dnM, hp]
  rw [e]
  obtain ⟨q1, q2, q3⟩ := (hc.down hp ho).let_ (fo := []) WtOk.nil
  exact ⟨rfl, q1, q2, q3⟩
theorem CI.live (hc : CI S H out []) {h : Int} (ho : 0 < out h) : ∃ o, pay S h = some o := by
  cases hp : pay S h with
  | none => have := hc.dead h hp; omega
  | some o => exact ⟨o, rfl⟩
theorem CI.count (hc : CI S H out []) (h : Int) : cntM S h = out h + rf S H h := by
  cases hp : pay S h with
  | none =>
    rw [cntM, whole_none hp, hc.dead h hp, hc.rf_dead hp]
    rfl
  | some o =>
    have := hc.cn h o hp
    simp only [List.count_nil] at this
    rw [cntM, whole_some hp, hc.ou h o hp]
    simp [hp]
    omega
theorem CI.small (hc : CI S H out []) {n : Int} (hn : ∀ x, out x ≤ n) (hl : (H.length : Int) ≤ n) (h8 : n ≤ 80) : ∀ h o, pay S h = some o → o.cn < 1048576 := fun h o hp => by
  have h1 := hc.cn h o hp
  have h2 := rf_le hc.inv.toHBase H h
  have h3 := hn h
  simp only [List.count_nil] at h1
  omega
variable {w₀ w : World} {F : HP} {b a : Nat} {P : PM} {pH pO : Option Addr} {cH cO : Nat}
theorem counted_ok (h : Sat w₀ (tab T_uint64 1 fU64 pH H.length cH H * (tab T_int 1 fInt pO H.length cO (H.map out) * (HH b a 1048576 P S * F))) w) (hc : CI S H out []) (hl : H.length ≤ 80) (ho : ∀ x, out x ≤ 80) :
    call Try.prog fn_tenonlaw11_counted #[.pointer (some ⟨b, 0, none⟩), .slice pH H.length cH, .slice pO H.length cO] w fun v w' => v = .bool true ∧ Sat w₀ (tab T_uint64 1 fU64 pH H.length cH H * (tab T_int 1 fInt pO H.length cO (H.map out) * (HH b a 1048576 P S * F))) w' := by
  apply tenonlaw11_counted_call
  unfold tenonlaw11_counted
  have hhp : ∀ {w}, Sat w₀ (tab T_uint64 1 fU64 pH H.length cH H * (tab T_int 1 fInt pO H.length cO (H.map out) * (HH b a 1048576 P S * F))) w → Sat w₀ (HH b a 1048576 P S * (tab T_uint64 1 fU64 pH H.length cH H * (tab T_int 1 fInt pO H.length cO (H.map out) * F))) w := fun h => h.perm (by ac_rfl)
  have rdH : ∀ {w : World} {X : HP} {j : Nat} {y : Int} {K : Int → Prop} {g : Nat}, Sat w₀ (tab T_uint64 1 fU64 pH H.length cH H * X) w → pH = some ⟨g, 0, none⟩ → H[j]? = some y → K y → ldI .u64 (⟨g, j * 1, none⟩ : Addr) w K := fun ht hg hy hK =>
    ldI_ok (by have := tab_cell fU64_len ht.left hg hy (j := 0) (by decide) rfl; rwa [Sp.add_zero] at this) hK
  refine ⟨fun n w m => 0 ≤ n ∧ n ≤ H.length ∧ m = H.length - n.toNat ∧ Sat w₀ (tab T_uint64 1 fU64 pH H.length cH H * (tab T_int 1 fInt pO H.length cO (H.map out) * (HH b a 1048576 P S * F))) w, ⟨_, by decide, by omega, rfl, h⟩, ?_⟩
  rintro u n w1 m ⟨n0, nl, rfl, h1⟩
  refine br_dec (fun hlt => ?_) (fun _ => ⟨rfl, h1⟩)
  have hi : n.toNat < H.length := by omega
  obtain ⟨x, hx⟩ : ∃ x, H[n.toNat]? = some x := ⟨_, List.getElem?_eq_getElem hi⟩
  have hxr := (hc.was x (List.mem_of_getElem? hx)).range hc.inv.ok
  have hxo : (H.map out)[n.toNat]? = some (out x) := by rw [List.getElem?_map, hx]; rfl
  have hox := ho x
  have ho0 := hc.out0 x
  refine tab_idx fInt_len h1.right.left (by decide) n0 hxo fun g hg => ldI_ok (n := out x) (by have := tab_cell fInt_len h1.right.left hg hxo (j := 0) (by decide) rfl; rwa [Sp.add_zero] at this) ?_
  refine ⟨fun c j w m => 0 ≤ j ∧ j ≤ H.length ∧ m = H.length - j.toNat ∧ c = out x + rf S (H.take j.toNat) x ∧ Sat w₀ (tab T_uint64 1 fU64 pH H.length cH H * (tab T_int 1 fInt pO H.length cO (H.map out) * (HH b a 1048576 P S * F))) w, ⟨_, by decide, by omega, rfl, by simp [rf], h1⟩, ?_⟩
  rintro u c j w2 m ⟨j0, jl, rfl, rfl, h2⟩
  refine br_dec (fun hjlt => ?_) (fun hjge => ?_)
  · have hj : j.toNat < H.length := by omega
    obtain ⟨y, hy⟩ : ∃ y, H[j.toNat]? = some y := ⟨_, List.getElem?_eq_getElem hj⟩
    have hyr := (hc.was y (List.mem_of_getElem? hy)).range hc.inv.ok
    have hrl := rf_le hc.inv.toHBase (H.take j.toNat) x
    have htl : (H.take j.toNat).length ≤ 80 := by rw [List.length_take]; omega
    refine tab_idx fU64_len h2.left (by decide) j0 hy fun g hg => rdH h2 hg hy <| call_mono (heap_links_ok (h := y) (most := 9) (hhp h2) hc.inv.toHBase hyr.1 hyr.2) ?_
    rintro _ w3 ⟨pl, m, cl, rfl, hm, h3⟩
    have hl8 : (lnOf S y).length ≤ 8 := by
      unfold lnOf
      split
      · rename_i o hp; exact (hc.inv.rng y o hp).len
      · simp
    have hm : m = (lnOf S y).length := by rw [hm]; omega
    subst hm
    rw [List.take_length] at h3
    have h4 : Sat w₀ (tab T_uint64 1 fU64 pH H.length cH H * (tab T_api_Link 2 lnF pl (lnOf S y).length cl (lnOf S y) * (tab T_int 1 fInt pO H.length cO (H.map out) * (HH b a 1048576 P S * F)))) w3 := h3.perm (by ac_rfl)
    refine asS_ok ⟨fun c i w m => 0 ≤ i ∧ i ≤ (lnOf S y).length ∧ m = (lnOf S y).length - i.toNat ∧ c = out x + rf S (H.take j.toNat) x + ((lnOf S y).take i.toNat).count (1, x) ∧ Sat w₀ (tab T_uint64 1 fU64 pH H.length cH H * (tab T_api_Link 2 lnF pl (lnOf S y).length cl (lnOf S y) * (tab T_int 1 fInt pO H.length cO (H.map out) * (HH b a 1048576 P S * F)))) w, ⟨_, by decide, by omega, rfl, by simp, h4⟩, ?_⟩
    clear h3 h4
    rintro u c i w4 m ⟨i0, il, rfl, rfl, h5⟩
    refine br_dec (fun hilt => ?_) (fun hige => ?_)
    · have hi2 : i.toNat < (lnOf S y).length := by omega
      obtain ⟨z, hz⟩ : ∃ z, (lnOf S y)[i.toNat]? = some z := ⟨_, List.getElem?_eq_getElem hi2⟩
      have h5 := h5.drew
      have hc8 : ((lnOf S y).take i.toNat).count (1, x) ≤ ((lnOf S y).take i.toNat).length := List.count_le_length
      have hc9 : ((lnOf S y).take i.toNat).length ≤ 8 := by rw [List.length_take]; omega
      have etk : ((lnOf S y).take (i + 1).toNat).count (1, x) = ((lnOf S y).take i.toNat).count (1, x) + if z = (1, x) then 1 else 0 := by
        rw [show (i + 1).toNat = i.toNat + 1 by omega, List.take_add_one, hz, List.count_append]
        show _ + List.count (1, x) [z] = _
        rw [count_one, List.count_nil, Nat.zero_add]
      refine tab_idx lnF_len h5.right.left (by decide) i0 hz fun g hg => ldI_ok (n := z.1) (tab_cell lnF_len h5.right.left hg hz (j := 0) (by decide) rfl) <| br_split (fun e1 => ?_) (fun e1 => ?_)
      · have e1 : z.1 = 1 := by simpa using e1
        refine tab_idx lnF_len h5.right.left (by decide) i0 hz fun g hg => ldI_ok (n := z.2) (tab_cell lnF_len h5.right.left hg hz (j := 1) (by decide) rfl) <| tab_idx fU64_len h5.left (by decide) n0 hx fun g hg => rdH h5 hg hx <| br_split (fun e2 => ?_) (fun e2 => ?_)
        · have e2 : z.2 = x := by simpa using e2
          rw [if_pos (Prod.ext_iff.2 ⟨e1, e2⟩)] at etk
          exact arith_i64 (by omega) (by omega) <| arith_i64 (by omega) (by omega) ⟨_, by omega, by omega, by omega, rfl, by rw [etk]; omega, h5⟩
        · have e2 : z.2 ≠ x := by simpa using e2
          rw [if_neg (fun e => e2 (Prod.ext_iff.1 e).2)] at etk
          exact arith_i64 (by omega) (by omega) ⟨_, by omega, by omega, by omega, rfl, by rw [etk]; omega, h5⟩
      · have e1 : z.1 ≠ 1 := by simpa using e1
        rw [if_neg (fun e => e1 (Prod.ext_iff.1 e).1)] at etk
        exact arith_i64 (by omega) (by omega) ⟨_, by omega, by omega, by omega, rfl, by rw [etk]; omega, h5⟩
    · have e9 : (lnOf S y).take i.toNat = lnOf S y := List.take_of_length_le (by omega)
      rw [e9]
      have etk : rf S (H.take (j + 1).toNat) x = rf S (H.take j.toNat) x + (lnOf S y).count (1, x) := by
        rw [show (j + 1).toNat = j.toNat + 1 by omega, List.take_add_one, hy]
        unfold rf
        rw [List.flatMap_append, List.count_append]
        simp
      exact arith_i64 (by omega) (by omega) ⟨_, by omega, by omega, by omega, rfl, by rw [etk]; omega, (h5.perm (B := tab T_api_Link 2 lnF pl (lnOf S y).length cl (lnOf S y) * (tab T_uint64 1 fU64 pH H.length cH H * (tab T_int 1 fInt pO H.length cO (H.map out) * (HH b a 1048576 P S * F)))) (by ac_rfl)).right⟩
  · rw [List.take_of_length_le (by omega)]
    have hrl := rf_le hc.inv.toHBase H x
    have hct := hc.count x
    refine tab_idx fU64_len h2.left (by decide) n0 hx fun g hg => rdH h2 hg hx <| call_mono (heap_Count_ok (hhp h2) hc.inv hxr.1 hxr.2) ?_
    rintro _ w5 ⟨rfl, rfl⟩
    rw [hct]
    exact asI_ok <| arith_i64 (by omega) (by omega) <| br_false (by simp) <| arith_i64 (by omega) (by omega) ⟨_, by omega, by omega, by omega, rfl, h2⟩
end
end Go.Proofs.Ytgchemgnmijpdaa
