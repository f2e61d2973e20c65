/- Contracts of the document's layer 19 (git). No conditions. -/
import Derived.Test.YtkgbfnlnpfedkaaGT2
set_option linter.unusedVariables false
set_option linter.unusedSimpArgs false
set_option maxRecDepth 100000
namespace Go.Proofs.Ytkgbfnlnpfedkaa
open Go.Sp Go.RowKit

abbrev Ent := Int × GE
def entF (e : Ent) : List Value := .int .u64 e.1 :: geF e.2
theorem entF_len (e : Ent) : (entF e).length = 38 := by simp [entF, geF_len]
theorem entF_one (e : Ent) : ∀ u ∈ entF e, u.oneCell' = true := by
  intro u hu
  rcases List.mem_cons.1 hu with rfl | hu
  · rfl
  · exact geF_one _ u hu
theorem entF_or (e : Ent) : ((entF e).drop 2).take 36 = orC e.2.2 := by
  show (orC e.2.2).take 36 = orC e.2.2
  rw [List.take_of_length_le (by rw [orC_len]; exact Nat.le_refl _)]
structure GRel (s : AS GE) (L : List Ent) : Prop where
  nd : (L.map (·.1)).Nodup
  mem : ∀ h e, (h, e) ∈ L ↔ Liv s h e
  len : L.length = s.cnt
def atI (L : List Ent) (h : Int) : Int := match L.findIdx? (fun e => e.1 == h) with | some j => (j : Int) | none => -1
theorem atI_cases {s : AS GE} {L : List Ent} (hs : AOk s) (hr : GRel s L) (h : Int) :
    (find s h = none ∧ atI L h = -1) ∨ ∃ i y j, find s h = some i ∧ s.sp[i]? = some y ∧ y.st = 1 ∧ h = hd i y.g ∧ atI L h = (j : Nat) ∧ L[j]? = some (h, y.x) := by
  unfold atI
  cases hx : L.findIdx? (fun e => e.1 == h) with
  | none =>
    left
    rw [List.findIdx?_eq_none_iff] at hx
    refine ⟨?_, rfl⟩
    cases hf : find s h with
    | none => rfl
    | some i =>
      obtain ⟨y, hy, h1, e⟩ := (find_iff hs).1 hf
      have := hx _ ((hr.mem h y.x).2 ⟨i, y, hy, h1, e, rfl⟩)
      simp at this
  | some j =>
    right
    rw [List.findIdx?_eq_some_iff_getElem] at hx
    obtain ⟨hj, he, _⟩ := hx
    have he : L[j].1 = h := by simpa using he
    have hm : (h, L[j].2) ∈ L := by
      have := List.getElem_mem hj
      rw [← he]
      exact this
    obtain ⟨i, y, hy, h1, e, ex⟩ := (hr.mem _ _).1 hm
    refine ⟨i, y, j, (find_iff hs).2 ⟨y, hy, h1, e⟩, hy, h1, e, rfl, ?_⟩
    rw [List.getElem?_eq_getElem hj, ← ex, ← he]
def RT (b r : Nat) (s : AS GE) : HP := ex fun L => ex fun p => ex fun l => ex fun c =>
  prop (GRel s L) * (blk b #[.pointer (some ⟨r, 0, none⟩), .slice p l c] T_tenonref19_Table * (tab T_tenonref19_Entry 38 entF p l c L * RAr r (mapA (fun _ => (0 : Int)) s)))
theorem RT.open_ {w₀ w : World} {F : HP} {b r : Nat} {s : AS GE} (h : Sat w₀ (RT b r s * F) w) : ∃ L p c, GRel s L ∧ Sat w₀ (blk b #[.pointer (some ⟨r, 0, none⟩), .slice p L.length c] T_tenonref19_Table * (tab T_tenonref19_Entry 38 entF p L.length c L * (RAr r (mapA (fun _ => (0 : Int)) s) * F))) w := by
  obtain ⟨L, h⟩ := Sat.ex h
  obtain ⟨p, h⟩ := Sat.ex h
  obtain ⟨l, h⟩ := Sat.ex h
  obtain ⟨c, h⟩ := Sat.ex h
  have h := h.perm (B := prop (GRel s L) * (blk b #[.pointer (some ⟨r, 0, none⟩), .slice p l c] T_tenonref19_Table * (tab T_tenonref19_Entry 38 entF p l c L * (RAr r (mapA (fun _ => (0 : Int)) s) * F)))) (by ac_rfl)
  have e1 := tab_len entF_len (by decide) h.right.right.left
  subst e1
  exact ⟨L, p, c, h.prop, h.right⟩
theorem RT.shut {w₀ w : World} {F : HP} {b r l c : Nat} {s : AS GE} {L : List Ent} {p : Option Addr} (hr : GRel s L) (h : Sat w₀ (blk b #[.pointer (some ⟨r, 0, none⟩), .slice p l c] T_tenonref19_Table * (tab T_tenonref19_Entry 38 entF p l c L * (RAr r (mapA (fun _ => (0 : Int)) s) * F))) w) : Sat w₀ (RT b r s * F) w :=
  Sat.to_ex L (Sat.to_ex p (Sat.to_ex l (Sat.to_ex c ((h.add_prop hr).perm (by ac_rfl)))))
theorem GRel.small {s : AS GE} {L : List Ent} (hs : AOk s) (hr : GRel s L) : L.length ≤ 65536 := by
  have := hr.len
  have := hs.bound
  have := hs.len
  have := hs.most1
  omega
theorem rt_New_ok {w₀ w : World} {F : HP} {most : Int} (h : Sat w₀ F w) (h0 : 1 ≤ most) (h1 : most ≤ 65536) :
    call Try.prog fn_tenonref19_New #[.int .i64 most] w fun v w' => ∃ b r, v = .pointer (some ⟨b, 0, none⟩) ∧ Sat w₀ (RT b r ⟨most, 1, [], [], 0⟩ * F) w' := by
  apply tenonref19_New_call
  unfold tenonref19_New
  refine call_mono (ref_New_ok h h0 h1 (by decide)) ?_
  rintro _ w1 ⟨r, rfl, h2⟩
  exact asP_ok <| br_false rfl <| new_ok h2 fun b w2 h3 => ⟨b, r, rfl, RT.shut (l := 0) (L := []) ⟨by simp, fun h e => ⟨fun hm => by simp at hm, fun ⟨i, y, hy, _⟩ => by simp at hy⟩, rfl⟩ ((tab_nil T_tenonref19_Entry 38 entF h3).perm (by
    show tab _ _ _ _ _ _ _ * (blk b _ _ * (RAr r (mapA (fun _ => (0 : Int)) (⟨most, 1, [], [], 0⟩ : AS GE)) * F)) = _
    ac_rfl))⟩
theorem rt_New_no {w : World} {most : Int} (h0 : most < 1 ∨ most > 65536) : PureCall Try.prog fn_tenonref19_New #[.int .i64 most] (.pointer none) := by
  intro w
  apply tenonref19_New_call
  unfold tenonref19_New
  exact call_pure (ref_New_no (by omega)) <| asP_ok <| br_true rfl ⟨rfl, rfl⟩
theorem rt_At_ok {w₀ w : World} {F : HP} {b r c : Nat} {p : Option Addr} {L : List Ent} {h : Int} (hh : Sat w₀ (blk b #[.pointer (some ⟨r, 0, none⟩), .slice p L.length c] T_tenonref19_Table * (tab T_tenonref19_Entry 38 entF p L.length c L * F)) w) (hL : L.length ≤ 65536) :
    call Try.prog fn_tenonref19_Table_At #[.pointer (some ⟨b, 0, none⟩), .int .u64 h] w fun v w' => w' = w ∧ v = .int .i64 (atI L h) := by
  apply tenonref19_Table_At_call
  unfold tenonref19_Table_At
  refine ⟨fun n w' m => 0 ≤ n ∧ n ≤ L.length ∧ m = L.length - n.toNat ∧ (∀ e ∈ L.take n.toNat, e.1 ≠ h) ∧ w' = w, ⟨_, by omega, by omega, rfl, by simp, rfl⟩, ?_⟩
  rintro u n w1 m ⟨h0, h1, rfl, hno, rfl⟩
  refine nn_ok <| ldS_ok (hh.left.cell (i := 1) rfl) <| br_dec (fun hlt => ?_) (fun hge => ?_)
  · obtain ⟨e, he⟩ : ∃ e, L[n.toNat]? = some e := ⟨L[n.toNat]'(by omega), by simp⟩
    have hT := hh.right.left
    refine nn_ok <| ldS_ok (hh.left.cell (i := 1) rfl) <| tab_idx entF_len hT (by decide) h0 he fun g hg => ldI_ok (tab_cell entF_len (j := 0) hT hg he (by decide) rfl) <| br_split (fun hq => ?_) (fun hq => ?_)
    · have hq : e.1 = h := by simpa using hq
      refine ⟨rfl, ?_⟩
      have : L.findIdx? (fun e => e.1 == h) = some n.toNat := by
        rw [List.findIdx?_eq_some_iff_getElem]
        refine ⟨by omega, ?_, fun j hj => ?_⟩
        · have e0 : L[n.toNat]? = some (L[n.toNat]'(by omega)) := List.getElem?_eq_getElem _
          rw [he] at e0
          have e0 := Option.some.inj e0
          rw [← e0]
          simpa using hq
        · have hm : L[j]'(by omega) ∈ L.take n.toNat := by
            rw [List.mem_iff_getElem?]
            exact ⟨j, by rw [List.getElem?_take, if_pos hj]; simp⟩
          simpa using hno _ hm
      rw [atI, this]
      show Value.int .i64 n = Value.int .i64 (n.toNat : Int)
      rw [Int.toNat_of_nonneg h0]
    · have hq : e.1 ≠ h := by simpa using hq
      refine arith_i64 (by omega) (by omega) ⟨_, by omega, by omega, by omega, rfl, fun e' he' => ?_, rfl⟩
      rw [show (n + 1).toNat = n.toNat + 1 by omega, List.take_add_one, he] at he'
      rcases List.mem_append.1 he' with he' | he'
      · exact hno e' he'
      · simp at he'; subst he'; exact hq
  · refine ⟨rfl, ?_⟩
    rw [List.take_of_length_le (by omega)] at hno
    have : L.findIdx? (fun e => e.1 == h) = none := by
      rw [List.findIdx?_eq_none_iff]
      intro e he
      simpa using hno e he
    rw [atI, this]
theorem entsTy : SliceTy Try.prog T_sl_tenonref19_Entry T_tenonref19_Entry (.agg (entF (0, ge0)).toArray) 38 72 := ⟨by kernel_rfl, by kernel_rfl, by simp [Value.cells, entF_len], by decide⟩
theorem GRel.put {s : AS GE} {L : List Ent} (hs : AOk s) (hr : GRel s L) {x : GE} (he : (put s x).2.2 = 0) : GRel (put s x).1 (L ++ [((put s x).2.1, x)]) := by
  refine ⟨?_, fun h e => ?_, ?_⟩
  · rw [List.map_append, List.nodup_append]
    refine ⟨hr.nd, by simp, fun a ha b hb e => ?_⟩
    subst e
    simp at hb
    subst hb
    obtain ⟨q, hq, hq1⟩ := List.mem_map.1 ha
    obtain ⟨q1, q2⟩ := q
    subst hq1
    exact put_fresh hs he ((hr.mem _ _).1 hq)
  · rw [put_liv hs he, ← hr.mem]
    simp
  · rw [put_cnt hs he, List.length_append, hr.len]
    rfl
theorem rt_Put_ok {w₀ w : World} {F : HP} {b r : Nat} {s : AS GE} {o : Int} {x : OR} (h : Sat w₀ (RT b r s * F) w) (hs : AOk s) :
    call Try.prog fn_tenonref19_Table_Put #[.pointer (some ⟨b, 0, none⟩), .int .i64 o, .agg (orF x.1)] w fun v w' => v = .tuple #[.int .u64 (gput s o x).2.1, .int .i64 (gput s o x).2.2] ∧ Sat w₀ (RT b r (gput s o x).1 * F) w' := by
  apply tenonref19_Table_Put_call
  unfold tenonref19_Table_Put
  refine new_ok h fun k w1 h1 => ldI_ok (cell_blk h1 (i := 0) rfl) <| br_split (fun hz => ?_) (fun hz => ?_)
  · have hz : x.1.fl = 0 := by simpa using hz
    have eg : gput s o x = (s, 0, 1) := by simp [gput, hz]
    rw [eg]
    exact ⟨rfl, h1.right⟩
  · have hz : x.1.fl ≠ 0 := by simpa using hz
    refine ldA_blk0 h1 (orF_sz x) <| call_mono (tenonref07_Right_ok h1 x.2) ?_
    rintro _ w2 ⟨rfl, h2⟩
    refine asB_ok <| br_split (fun hb => ?_) (fun hb => ?_)
    · have hb : rightB x.1 = false := by simpa using hb
      have eg : gput s o x = (s, 0, 1) := by simp [gput, hb]
      rw [eg]
      exact ⟨rfl, h2.right⟩
    · have hb : rightB x.1 = true := by simpa using hb
      have eg : gput s o x = put s (o, x) := by simp [gput, hz, hb]
      obtain ⟨L, p, c, hr, h3⟩ := RT.open_ (h2.p1)
      have hsm := hr.small hs
      have h4 := h3.perm (B := RAr r (mapA (fun _ => (0 : Int)) s) * (blk b #[.pointer (some ⟨r, 0, none⟩), .slice p L.length c] T_tenonref19_Table * (tab T_tenonref19_Entry 38 entF p L.length c L * (blk k (orF x.1) T_api_Objref * F)))) (by ac_rfl)
      refine nn_ok <| ldP_ok (h3.left.cell (i := 0) rfl) <| call_mono (ref_Put_ok (x := 0) h4 hs.mapA) ?_
      have em := put_mapA (f := fun _ : GE => (0 : Int)) hs (o, x)
      rw [em, eg]
      rintro _ w4 ⟨rfl, h5⟩
      have hz := put_zero (x := (o, x)) hs
      refine asI_ok <| br_split (fun h0 => ?_) (fun h0 => ?_)
      · have h0 : (put s (o, x)).2.1 = 0 := by simpa using h0
        have hne := hz.1 h0
        rw [put_same hs hne] at h5 ⊢
        exact ⟨rfl, (RT.shut hr (h5.p1.perm (B := blk b #[.pointer (some ⟨r, 0, none⟩), .slice p L.length c] T_tenonref19_Table * (tab T_tenonref19_Entry 38 entF p L.length c L * (RAr r (mapA (fun _ => (0 : Int)) s) * (blk k (orF x.1) T_api_Objref * F)))) (by ac_rfl))).p1.right⟩
      · have h0 : (put s (o, x)).2.1 ≠ 0 := by simpa using h0
        have he : (put s (o, x)).2.2 = 0 := by
          by_cases hh : (put s (o, x)).2.2 = 0
          · exact hh
          · exact absurd (hz.2 hh) h0
        have h6 := (h5.drew).perm (B := blk k (orF x.1) T_api_Objref * (blk b #[.pointer (some ⟨r, 0, none⟩), .slice p L.length c] T_tenonref19_Table * (tab T_tenonref19_Entry 38 entF p L.length c L * (RAr r (mapA (fun _ => (0 : Int)) (put s (o, x)).1) * F)))) (by ac_rfl)
        have e1 : (((#[] ++ #[.int .u64 (put s (o, x)).2.1]) ++ #[.int .i64 o]) ++ orF x.1 : Array Value) = (entF ((put s (o, x)).2.1, (o, x))).toArray := by
          apply Array.ext'
          simp [entF, geF, orC]
        refine nn_ok <| ldS_ok (h6.right.left.cell (i := 1) rfl) <| ldA_blk0 h6 (orF_sz x) ⟨orF_sz x, ?_⟩
        rw [e1]
        refine ⟨by simp [entF_len], new_ok h6 fun k13 w5 h7 => ?_⟩
        refine tab_app entsTy entF_len (by decide) entF_one (x := ((put s (o, x)).2.1, (o, x))) (h7.perm (B := _ * (tab T_tenonref19_Entry 38 entF p L.length c L * (blk b #[.pointer (some ⟨r, 0, none⟩), .slice p L.length c] T_tenonref19_Table * (RAr r (mapA (fun _ => (0 : Int)) (put s (o, x)).1) * (blk k (orF x.1) T_api_Objref * F))))) (by ac_rfl)) rfl (by simp only [maxLen]; omega) (by omega) fun p' c' w6 h8 => ?_
        refine nn_ok <| st_ok (i := 1) h8.p1 (by simp) fun w7 h9 => ⟨by rw [he], ?_⟩
        have h9 := h9.perm (B := blk b #[.pointer (some ⟨r, 0, none⟩), .slice p' (L.length + 1) c'] T_tenonref19_Table * (tab T_tenonref19_Entry 38 entF p' (L.length + 1) c' (L ++ [((put s (o, x)).2.1, (o, x))]) * (RAr r (mapA (fun _ => (0 : Int)) (put s (o, x)).1) * (blk k (orF x.1) T_api_Objref * F)))) rfl
        exact (RT.shut (hr.put hs he) h9).p1.right
theorem GRel.drop {s : AS GE} {L : List Ent} (hs : AOk s) (hr : GRel s L) {i j : Nat} {y : Spot GE} (hy : s.sp[i]? = some y) (h1 : y.st = 1) (hj : L[j]? = some (hd i y.g, y.x)) : GRel (dropS ge0 s i) (L.take j ++ L.drop (j + 1)) := by
  have hlt := (List.getElem?_eq_some_iff.1 hj).1
  have e : L = L.take j ++ (hd i y.g, y.x) :: L.drop (j + 1) := by
    conv => lhs; rw [← List.take_append_drop j L, List.drop_eq_getElem_cons hlt]
    rw [List.getElem?_eq_getElem hlt] at hj
    simp only [Option.some.injEq] at hj
    rw [hj]
  have hnd := hr.nd
  rw [e, List.map_append, List.map_cons] at hnd
  obtain ⟨n1, n2, n3⟩ := List.nodup_append.1 hnd
  rw [List.nodup_cons] at n2
  refine ⟨?_, fun h e' => ?_, ?_⟩
  · rw [List.map_append, List.nodup_append]
    exact ⟨n1, n2.2, fun a ha b hb => n3 a ha b (List.mem_cons_of_mem _ hb)⟩
  · rw [drop_liv hs hy h1, ← hr.mem]
    conv => rhs; rw [e]
    simp only [List.mem_append, List.mem_cons]
    constructor
    · rintro (hm | hm)
      · refine ⟨.inl hm, fun e2 => ?_⟩
        exact n3 h (List.mem_map.2 ⟨_, hm, rfl⟩) (hd i y.g) (.head _) e2
      · refine ⟨.inr (.inr hm), fun e2 => ?_⟩
        exact n2.1 (List.mem_map.2 ⟨_, hm, e2⟩)
    · rintro ⟨hm | hm | hm, hne⟩
      · exact .inl hm
      · cases hm; exact absurd rfl hne
      · exact .inr hm
  · have := drop_cnt (z := ge0) hs hy h1
    have := hr.len
    rw [List.length_append, List.length_take, List.length_drop]
    omega
theorem rt_Drop_ok {w₀ w : World} {F : HP} {b r : Nat} {s : AS GE} {h : Int} (hh : Sat w₀ (RT b r s * F) w) (hs : AOk s) :
    call Try.prog fn_tenonref19_Table_Drop #[.pointer (some ⟨b, 0, none⟩), .int .u64 h] w fun v w' => v = .tuple #[.agg (orF (dropR ge0 s h).2.1.2.1), .int .i64 (dropR ge0 s h).2.2] ∧ Sat w₀ (RT b r (dropR ge0 s h).1 * F) w' := by
  apply tenonref19_Table_Drop_call
  unfold tenonref19_Table_Drop
  refine new_ok hh fun k1 w1 h1 => ?_
  obtain ⟨L, p, c, hr, h2⟩ := RT.open_ (h1.p1)
  have hsm := hr.small hs
  refine call_mono (rt_At_ok h2 hsm) ?_
  rintro _ w2 ⟨rfl, rfl⟩
  rcases atI_cases hs hr h with ⟨hf, ha⟩ | ⟨i, y, j, hf, hy, hy1, rfl, ha, hj⟩
  · rw [ha, dropR_none hf]
    exact asI_ok <| br_true (by decide) <| stA_ok h1 rfl rfl (orF_oneA or0) fun w3 h3 => ldA_blk0 h3 rfl ⟨rfl, h3.right⟩
  · rw [ha, dropR_some hf hy]
    have hlt := (List.getElem?_eq_some_iff.1 hj).1
    have hj' : L[(j : Int).toNat]? = some (hd i y.g, y.x) := by rw [Int.toNat_natCast]; exact hj
    refine asI_ok <| br_false (by simp) <| nn_ok <| ldS_ok (h2.left.cell (i := 1) rfl) <| tab_idx entF_len h2.right.left (by decide) (by omega) hj' fun g hg => tab_ldA entF_len (o := 2) (n := 36) h2.right.left hg hj' (by decide) (entF_or _) <| new_ok h2 fun k9 w4 h3 => ?_
    rw [orC_arr]
    refine stA_ok h3 rfl (orF_sz y.x.2) (orF_oneA y.x.2) fun w5 h4 => ?_
    have h5 := h4.perm (B := tab T_tenonref19_Entry 38 entF p L.length c L * (blk b #[.pointer (some ⟨r, 0, none⟩), .slice p L.length c] T_tenonref19_Table * (RAr r (mapA (fun _ => (0 : Int)) s) * (blk k9 (orF y.x.2.1) T_api_Objref * (blk k1 (orF or0.1) T_api_Objref * F))))) (by
      show blk k9 _ _ * (blk b _ _ * (tab _ _ _ _ _ _ _ * (RAr r _ * (blk k1 (orF or0.1) T_api_Objref * F)))) = _
      ac_rfl)
    refine nn_ok <| ldS_ok (h5.right.left.cell (i := 1) rfl) <| slc_own (h5 : Sat w₀ (own T_tenonref19_Entry 38 p L.length c (L.flatMap entF) * _) w5) (by omega) (by omega) ?_
    rw [Int.toNat_natCast]
    have hR : Rd w5 38 p L.length (L.flatMap entF) := Sat.rd (t := T_tenonref19_Entry) (c := c) (h5.left : Sat w₀ (own T_tenonref19_Entry 38 p L.length c (L.flatMap entF)) w5)
    have hcap := (h5.left : Sat w₀ (own T_tenonref19_Entry 38 p L.length c (L.flatMap entF)) w5).own_cap
    have hR1 : Rd w5 38 p j ((L.take j).flatMap entF) := by
      have := hR.sub (lo := 0) (hi := j) (c := c) (by omega) (by omega) hcap
      rw [Nat.zero_mul, List.drop_zero, Nat.sub_zero, flatTake entF_len] at this
      refine ⟨this.1, fun h => hR.2.1 (by omega), fun a e i u hu => ?_⟩
      refine hR.2.2 a e i u ?_
      rw [← flatTake entF_len, List.getElem?_take] at hu
      split at hu
      · exact hu
      · cases hu
    refine tab_more (ys := []) (zs := L.take j) (m := j) (l := 0) entsTy entF_len entF_one (tab_nil T_tenonref19_Entry 38 entF h5) hR1 (by simp only [maxLen]; omega) (by omega) fun p' c' w6 h6 => ?_
    rw [Nat.zero_add, List.nil_append] at h6
    rw [Nat.zero_add]
    refine nn_ok <| ldS_ok (h6.right.right.left.cell (i := 1) rfl) <| arith_i64 (by omega) (by omega) ?_
    have hT6 : Sat w₀ (own T_tenonref19_Entry 38 p L.length c (L.flatMap entF)) w6 := h6.right.left
    have hR6 : Rd w6 38 p L.length (L.flatMap entF) := Sat.rd (t := T_tenonref19_Entry) (c := c) hT6
    refine slc_ok (by omega) (by omega) (by omega) ?_
    have e1 : ((j : Int) + 1).toNat = j + 1 := by omega
    rw [e1, Int.toNat_natCast]
    have hR2 : Rd w6 38 (if c = j + 1 then p else p.map (·.add ((j + 1) * 38))) (L.length - (j + 1)) ((L.drop (j + 1)).flatMap entF) := by
      have := hR6.sub (lo := j + 1) (hi := L.length) (c := c) (by omega) (by omega) hcap
      have e2 : ((L.flatMap entF).drop ((j + 1) * 38)).take ((L.length - (j + 1)) * 38) = (L.drop (j + 1)).flatMap entF := by
        have e3 : L.flatMap entF = (L.take (j + 1)).flatMap entF ++ (L.drop (j + 1)).flatMap entF := by rw [← List.flatMap_append, List.take_append_drop]
        rw [e3, List.drop_append, List.drop_of_length_le (by rw [flatLen entF_len, List.length_take]; exact Nat.mul_le_mul_right _ (Nat.min_le_left _ _)), flatLen entF_len, List.nil_append, List.length_take, Nat.min_eq_left (by omega), Nat.sub_self, List.drop_zero, List.take_of_length_le (by rw [flatLen entF_len, List.length_drop]; exact Nat.le_refl _)]
      rw [e2] at this
      exact this
    refine tab_more (ys := L.take j) (zs := L.drop (j + 1)) (m := L.length - (j + 1)) (l := j) entsTy entF_len entF_one h6 hR2 (by simp only [maxLen]; omega) (by omega) fun p'' c'' w7 h7 => ?_
    have h8 := h7.perm (B := blk b #[.pointer (some ⟨r, 0, none⟩), .slice p L.length c] T_tenonref19_Table * (tab T_tenonref19_Entry 38 entF p'' (j + (L.length - (j + 1))) c'' (L.take j ++ L.drop (j + 1)) * (RAr r (mapA (fun _ => (0 : Int)) s) * (blk k9 (orF y.x.2.1) T_api_Objref * (blk k1 (orF or0.1) T_api_Objref * (F * tab T_tenonref19_Entry 38 entF p L.length c L)))))) (by ac_rfl)
    refine nn_ok <| st_ok (i := 1) h8 (by simp) fun w8 h9 => ?_
    have h9 := (h9.drew).perm (B := RAr r (mapA (fun _ => (0 : Int)) s) * (blk b #[.pointer (some ⟨r, 0, none⟩), .slice p'' (j + (L.length - (j + 1))) c''] T_tenonref19_Table * (tab T_tenonref19_Entry 38 entF p'' (j + (L.length - (j + 1))) c'' (L.take j ++ L.drop (j + 1)) * (blk k9 (orF y.x.2.1) T_api_Objref * (blk k1 (orF or0.1) T_api_Objref * (F * tab T_tenonref19_Entry 38 entF p L.length c L)))))) (by
      show blk b #[.pointer (some ⟨r, 0, none⟩), .slice p'' (j + (L.length - (j + 1))) c''] T_tenonref19_Table * _ = _
      ac_rfl)
    refine nn_ok <| ldP_ok (h9.right.left.cell (i := 0) rfl) <| nn_ok <| ldP_ok (h9.right.left.cell (i := 0) rfl) <| call_mono (ref_At_ok (h := hd i y.g) h9 hs.mapA) ?_
    rw [find_mapA hs, hf]
    rintro _ w9 ⟨rfl, rfl⟩
    have hym : (mapA (fun _ => (0 : Int)) s).sp[i]? = some ⟨0, y.g, y.st⟩ := by rw [mapA_get, hy]; rfl
    refine asI_ok ⟨h9.right.left.cell (i := 0) rfl, call_mono (ref_Drop_ok h9 hs.mapA hym) ?_⟩
    have ed : dropS (0 : Int) (mapA (fun _ : GE => (0 : Int)) s) i = mapA (fun _ => (0 : Int)) (dropS ge0 s i) := dropS_mapA (f := fun _ : GE => (0 : Int)) ge0 i
    rw [ed]
    rintro _ w10 ⟨rfl, h10⟩
    have h11 := h10.perm (B := blk k1 (orF or0.1) T_api_Objref * (blk k9 (orF y.x.2.1) T_api_Objref * (blk b #[.pointer (some ⟨r, 0, none⟩), .slice p'' (j + (L.length - (j + 1))) c''] T_tenonref19_Table * (tab T_tenonref19_Entry 38 entF p'' (j + (L.length - (j + 1))) c'' (L.take j ++ L.drop (j + 1)) * (RAr r (mapA (fun _ => (0 : Int)) (dropS ge0 s i)) * (F * tab T_tenonref19_Entry 38 entF p L.length c L)))))) (by ac_rfl)
    refine ⟨rfl, ldA_blk0 h11.right (orF_sz y.x.2) <| stA_ok h11 rfl (orF_sz y.x.2) (orF_oneA y.x.2) fun w11 h12 => ldA_blk0 h12 (orF_sz y.x.2) ⟨rfl, ?_⟩⟩
    have h13 := RT.shut (hr.drop hs hy hy1 hj) h12.right.right
    exact (h13.perm (B := tab T_tenonref19_Entry 38 entF p L.length c L * (RT b r (dropS ge0 s i) * F)) (by ac_rfl)).right
end Go.Proofs.Ytkgbfnlnpfedkaa
