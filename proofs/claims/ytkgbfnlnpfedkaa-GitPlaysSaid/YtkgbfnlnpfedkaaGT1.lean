/- Contracts of layer 19 (git): the table, and its calls. No conditions. -/
import Derived.Test.YtkgbfnlnpfedkaaGA2
import Derived.Test.YtkgbfnlnpfedkaaAR
import Derived.Test.YtkgbfnlnpfedkaaAL
set_option linter.unusedVariables false
set_option linter.unusedSimpArgs false
set_option maxRecDepth 100000
namespace Go.Proofs.Ytkgbfnlnpfedkaa
open Go.Sp Go.RowKit

def Gt (b a : Nat) (s : AS GE) : HP := blk b #[.pointer (some ⟨a, 0, none⟩)] T_git_Table * Ar a s
theorem orsTy : SliceTy Try.prog T_sl_api_Objref T_api_Objref (.agg (orC or0).toArray) 36 56 := ⟨by kernel_rfl, by kernel_rfl, by simp [Value.cells, orC_len], by decide⟩
theorem orF_oneA (x : OR) : ∀ u ∈ (orF x.1).toList, u.oneCell' = true := orC_one x
theorem orF_sz (x : OR) : (orF x.1).size = 36 := orF_size x.2
theorem geF_or (e : GE) : (geF e).toArray.extract 1 (1 + 36) = orF e.2.1 := by
  apply Array.ext'
  rw [Array.toList_extract, List.extract_eq_take_drop]
  show ((geF e).drop 1).take 36 = orC e.2
  show (orC e.2).take 36 = orC e.2
  rw [List.take_of_length_le (by rw [orC_len]; exact Nat.le_refl _)]

theorem git_New_ok {w₀ w : World} {F : HP} {most : Int} (h : Sat w₀ F w) (h0 : 1 ≤ most) (h1 : most ≤ 65536) :
    call Try.prog fn_git_New #[.int .i64 most] w fun v w' => ∃ b a, v = .tuple #[.pointer (some ⟨b, 0, none⟩), .int .i64 0] ∧ Sat w₀ (Gt b a ⟨most, 1, [], [], 0⟩ * F) w' := by
  apply git_New_call
  unfold git_New
  refine call_mono (arena_New_ok h h0 h1 (by decide)) ?_
  rintro _ w1 ⟨a, rfl, h2⟩
  exact ⟨_, _, rfl, br_false rfl <| new_ok h2 fun b w2 h3 => ⟨b, a, rfl, h3.perm (by show blk b _ _ * _ = blk b _ _ * _ * _; ac_rfl)⟩⟩
theorem git_New_no {w : World} {most : Int} (h0 : most < 1 ∨ most > 65536) : call Try.prog fn_git_New #[.int .i64 most] w fun v w' => v = .tuple #[.pointer none, .int .i64 1] ∧ w' = w := by
  apply git_New_call
  unfold git_New
  exact call_pure (arena_New_no (w := w) (by omega)) ⟨_, _, rfl, br_true rfl ⟨rfl, rfl⟩⟩
def gput (s : AS GE) (o : Int) (x : OR) : AS GE × Int × Int := if x.1.fl = 0 ∨ rightB x.1 = false then (s, 0, 1) else put s (o, x)
theorem AOk.gput {s : AS GE} (hs : AOk s) (o : Int) (x : OR) : AOk (gput s o x).1 := by
  unfold Proofs.Ytkgbfnlnpfedkaa.gput
  split
  · exact hs
  · exact hs.put _
theorem git_Put_ok {w₀ w : World} {F : HP} {b a : Nat} {s : AS GE} {o : Int} {x : OR} (h : Sat w₀ (Gt b a s * F) w) (hs : AOk s) :
    call Try.prog fn_git_Table_Put #[.pointer (some ⟨b, 0, none⟩), .int .i64 o, .agg (orF x.1)] w fun v w' => v = .tuple #[.int .u64 (gput s o x).2.1, .int .i64 (gput s o x).2.2] ∧ Sat w₀ (Gt b a (gput s o x).1 * F) w' := by
  apply git_Table_Put_call
  unfold git_Table_Put
  refine new_ok h fun k w1 h1 => br_false rfl <| ldI_ok (cell_blk h1 (i := 0) rfl) <| br_split (fun hz => ?_) (fun hz => ?_)
  · have hz : x.1.fl = 0 := by simpa using hz
    have eg : gput s o x = (s, 0, 1) := by simp [gput, hz]
    rw [eg]
    exact ⟨rfl, h1.right⟩
  · have hz : x.1.fl ≠ 0 := by simpa using hz
    refine ldA_blk0 h1 (orF_sz x) <| call_mono (objref_Check_ok h1 x.2) ?_
    rintro _ w2 ⟨rfl, h2⟩
    refine asI_ok <| br_split (fun hb => ?_) (fun hb => ?_)
    · have hb : rightB x.1 = false := by
        cases hr : rightB x.1
        · rfl
        · rw [hr] at hb; simp at hb
      have eg : gput s o x = (s, 0, 1) := by simp [gput, hb]
      rw [eg]
      exact ⟨rfl, h2.right⟩
    · have hb : rightB x.1 = true := by
        cases hr : rightB x.1
        · rw [hr] at hb; simp at hb
        · rfl
      have h3 := h2.drew
      have e : ((#[] ++ #[.int .i64 o]) ++ orF x.1 : Array Value) = (geF (o, x)).toArray := by
        apply Array.ext'
        simp [geF, orC]
      have h4 := h3.perm (B := Ar a s * (blk b #[.pointer (some ⟨a, 0, none⟩)] T_git_Table * (blk k (orF x.1) T_api_Objref * F))) (by unfold Gt; ac_rfl)
      refine nn_ok <| ldP_ok (h4.right.left.cell (i := 0) rfl) <| ldA_blk0 h3 (orF_sz x) ⟨orF_sz x, ?_⟩
      rw [e]
      refine call_mono (arena_Put_ok h4 hs) ?_
      rintro _ w4 ⟨rfl, h5⟩
      have eg : gput s o x = put s (o, x) := by simp [gput, hz, hb]
      rw [eg]
      exact ⟨_, _, rfl, rfl, (h5.perm (B := blk k (orF x.1) T_api_Objref * (Gt b a (put s (o, x)).1 * F)) (by unfold Gt; ac_rfl)).right⟩
theorem git_Get_ok {w₀ w : World} {F : HP} {b a : Nat} {s : AS GE} {h : Int} (hh : Sat w₀ (Gt b a s * F) w) (hs : AOk s) (h0 : 0 ≤ h) (h1 : h ≤ 18446744073709551615) :
    call Try.prog fn_git_Table_Get #[.pointer (some ⟨b, 0, none⟩), .int .u64 h] w fun v w' => Sat w₀ (Gt b a s * F) w' ∧
      match (find s h).bind (s.sp[·]?) with
      | none => v = .tuple #[.agg (orF or0.1), .int .i64 2]
      | some y => v = .tuple #[.agg (orF y.x.2.1), .int .i64 0] := by
  apply git_Table_Get_call
  unfold git_Table_Get
  refine new_ok hh fun k w1 h2 => br_false rfl ?_
  have h3 := h2.perm (B := Ar a s * (blk b #[.pointer (some ⟨a, 0, none⟩)] T_git_Table * (blk k (orF or0.1) T_api_Objref * F))) (by
    show blk k (orF or0.1) T_api_Objref * (Gt b a s * F) = _
    unfold Gt
    ac_rfl)
  refine nn_ok <| ldP_ok (h3.right.left.cell (i := 0) rfl) <| call_mono (arena_Get_ok h3 hs h0 h1) ?_
  have fin : ∀ {w e} {n : Int}, Sat w₀ (Ar a s * (blk b #[.pointer (some ⟨a, 0, none⟩)] T_git_Table * (blk k (orF or0.1) T_api_Objref * F))) w → ∀ {K : Value → World → Prop}, (∀ w', Sat w₀ (Gt b a s * F) w' → K (.tuple #[.agg (orF e.2.1), .int .i64 n]) w') →
      new (geF ge0).toArray 72 w fun k8 w4 => stA Try.prog (⟨k8, 0, none⟩ : Addr) 37 (geF e).toArray w4 fun w5 => ldA ((⟨k8, 0, none⟩ : Addr).add 1) 36 w5 fun g9 => stA Try.prog (⟨k, 0, none⟩ : Addr) 36 g9 w5 fun w6 => ldA (⟨k, 0, none⟩ : Addr) 36 w6 fun g10 => K (.tuple #[.agg g10, .int .i64 n]) w6 := by
    intro w e n h4 K hk
    refine new_ok h4 fun k8 w4 h5 => stA_ok h5 rfl (geF_size e) (geF_oneA e) fun w5 h6 => ldA_blk (o := 1) (n := 36) h6 (by simp [geF_len]) ?_
    rw [geF_or]
    have h7 := h6.perm (B := blk k (orF or0.1) T_api_Objref * (blk k8 (geF e).toArray 72 * (Gt b a s * F))) (by unfold Gt; ac_rfl)
    exact stA_ok h7 rfl (orF_sz e.2) (orF_oneA e.2) fun w6 h8 => ldA_blk0 h8 (orF_sz e.2) (hk _ h8.right.right)
  rcases find_get hs h with ⟨hf, hb⟩ | ⟨i, y, hf, hy, h1, hb⟩
  · rw [hb]
    rintro _ w2 ⟨h4, rfl⟩
    exact ⟨_, _, rfl, fin (e := ge0) h4 (K := fun v w' => Sat w₀ (Gt b a s * F) w' ∧ v = .tuple #[.agg (orF or0.1), .int .i64 2]) fun w' h => ⟨h, rfl⟩⟩
  · rw [hb]
    rintro _ w2 ⟨h4, rfl⟩
    exact ⟨_, _, rfl, fin (e := y.x) h4 (K := fun v w' => Sat w₀ (Gt b a s * F) w' ∧ v = .tuple #[.agg (orF y.x.2.1), .int .i64 0]) fun w' h => ⟨h, rfl⟩⟩
theorem git_Drop_ok {w₀ w : World} {F : HP} {b a : Nat} {s : AS GE} {h : Int} (hh : Sat w₀ (Gt b a s * F) w) (hs : AOk s) (h0 : 0 ≤ h) (h1 : h ≤ 18446744073709551615) :
    call Try.prog fn_git_Table_Drop #[.pointer (some ⟨b, 0, none⟩), .int .u64 h] w fun v w' => v = .tuple #[.agg (orF (dropR ge0 s h).2.1.2.1), .int .i64 (dropR ge0 s h).2.2] ∧ Sat w₀ (Gt b a (dropR ge0 s h).1 * F) w' := by
  apply git_Table_Drop_call
  unfold git_Table_Drop
  refine new_ok hh fun k w1 h2 => br_false rfl ?_
  have h3 := h2.perm (B := Ar a s * (blk b #[.pointer (some ⟨a, 0, none⟩)] T_git_Table * (blk k (orF or0.1) T_api_Objref * F))) (by
    show blk k (orF or0.1) T_api_Objref * (Gt b a s * F) = _
    unfold Gt
    ac_rfl)
  refine nn_ok <| ldP_ok (h3.right.left.cell (i := 0) rfl) <| call_mono (arena_Drop_ok h3 hs h0 h1) ?_
  rintro _ w2 ⟨rfl, h4⟩
  generalize dropR ge0 s h = r at h4 ⊢
  refine ⟨_, _, rfl, new_ok h4 fun k8 w4 h5 => stA_ok h5 rfl (geF_size r.2.1) (geF_oneA r.2.1) fun w5 h6 => ldA_blk (o := 1) (n := 36) h6 (by simp [geF_len]) ?_⟩
  rw [geF_or]
  have h7 := h6.perm (B := blk k (orF or0.1) T_api_Objref * (blk k8 (geF r.2.1).toArray 72 * (Gt b a r.1 * F))) (by unfold Gt; ac_rfl)
  exact stA_ok h7 rfl (orF_sz r.2.1.2) (orF_oneA r.2.1.2) fun w6 h8 => ldA_blk0 h8 (orF_sz r.2.1.2) ⟨rfl, h8.right.right⟩

/-- All of an owner's. -/
def ofO (o : Int) (e : GE) : Bool := decide (e.1 = o)
def leave (s : AS GE) (o : Int) : AS GE × List GE := dropAll ge0 (ofO o) s (liveFrom 0 s.sp)
theorem leave_ok {s : AS GE} (hs : AOk s) (o : Int) : AOk (leave s o).1 ∧ (leave s o).1.most = s.most ∧ (∀ h e, Liv (leave s o).1 h e ↔ Liv s h e ∧ e.1 ≠ o) := by
  obtain ⟨h1, h2, _, h4⟩ := dropAll_ok (z := ge0) (q := ofO o) hs [] _ (liveFrom 0 s.sp) rfl (by simpa using live_nodup s.sp 0) (by simpa using live_get)
  refine ⟨h1, h2, fun h e => ?_⟩
  show Liv (dropAll ge0 (ofO o) s (liveFrom 0 s.sp)).1 h e ↔ _
  rw [h4]
  constructor
  · rintro ⟨ha, hb⟩
    refine ⟨ha, fun ho => ?_⟩
    obtain ⟨p, hp, rfl, rfl⟩ := live_liv.1 ha
    exact hb p hp (by simp [ofO, ho]) rfl
  · rintro ⟨ha, hb⟩
    refine ⟨ha, fun p hp hq e => ?_⟩
    subst e
    have : e = p.2.x := Liv.one hs ha (live_liv.2 ⟨p, hp, rfl, rfl⟩)
    rw [this] at hb
    exact hb (by simpa [ofO] using hq)
theorem git_Leave_ok {w₀ w : World} {F : HP} {b a : Nat} {s : AS GE} {o : Int} (hh : Sat w₀ (Gt b a s * F) w) (hs : AOk s) :
    call Try.prog fn_git_Table_Leave #[.pointer (some ⟨b, 0, none⟩), .int .i64 o] w fun v w' => ∃ p l c, v = .slice p l c ∧ l = (leave s o).2.length ∧ Sat w₀ (tab T_api_Objref 36 orC p l c ((leave s o).2.map (·.2)) * (Gt b a (leave s o).1 * F)) w' := by
  apply git_Table_Leave_call
  unfold git_Table_Leave
  have hlen := hs.len
  have hm := hs.most1
  refine new_ok hh fun k1 w1 h1 => new_ok h1 fun k2 w2 h2 => ldP_ok (h2.right.left.cell (i := 0) rfl) <| br_false rfl <| new_ok h2 fun k4 w3 h3 => ?_
  have h3 := h3.perm (B := blk k1 #[.pointer (some ⟨b, 0, none⟩)] 23 * (blk b #[.pointer (some ⟨a, 0, none⟩)] T_git_Table * (Ar a s * (blk k2 #[.int .i64 o] 3 * (blk k4 #[.slice none 0 0] 39 * F))))) (by unfold Gt; ac_rfl)
  refine ldP_ok (h3.left.cell (i := 0) rfl) <| nn_ok <| ldP_ok (h3.right.left.cell (i := 0) rfl) <| call_mono (arena_All_ok h3) ?_
  rintro _ w4 ⟨kk, t, rfl, h4⟩
  let r : Nat → AS GE × List GE := fun j => dropAll ge0 (ofO o) s ((liveFrom 0 s.sp).take j)
  let A : Nat → HP := fun j => ex fun p => ex fun c => tab T_api_Objref 36 orC p (r j).2.length c ((r j).2.map (·.2)) * (blk k4 #[.slice p (r j).2.length c] 39 * (blk k1 #[.pointer (some ⟨b, 0, none⟩)] 23 * (blk b #[.pointer (some ⟨a, 0, none⟩)] T_git_Table * (blk k2 #[.int .i64 o] 3 * (blk kk #[.pointer (some ⟨a, 0, none⟩)] t * (Ar a (r j).1 * F))))))
  have hll : (liveFrom 0 s.sp).length ≤ 65536 := by
    rw [liveFrom_length, ← hs.cnt]
    have := hs.bound
    omega
  have hopen : ∀ {w G} j, Sat w₀ (A j * G) w → ∃ p c, Sat w₀ (tab T_api_Objref 36 orC p (r j).2.length c ((r j).2.map (·.2)) * (blk k4 #[.slice p (r j).2.length c] 39 * (blk k1 #[.pointer (some ⟨b, 0, none⟩)] 23 * (blk b #[.pointer (some ⟨a, 0, none⟩)] T_git_Table * (blk k2 #[.int .i64 o] 3 * (blk kk #[.pointer (some ⟨a, 0, none⟩)] t * (Ar a (r j).1 * (F * G)))))))) w := by
    intro w G j h
    obtain ⟨p, h⟩ := Sat.ex h
    obtain ⟨c, h⟩ := Sat.ex h
    exact ⟨p, c, h.perm (by ac_rfl)⟩
  have hshut : ∀ {w G p c} j l ys, l = (r j).2.length → ys = (r j).2.map (·.2) → Sat w₀ (tab T_api_Objref 36 orC p l c ys * (blk k4 #[.slice p l c] 39 * (blk k1 #[.pointer (some ⟨b, 0, none⟩)] 23 * (blk b #[.pointer (some ⟨a, 0, none⟩)] T_git_Table * (blk k2 #[.int .i64 o] 3 * (blk kk #[.pointer (some ⟨a, 0, none⟩)] t * (Ar a (r j).1 * (F * G)))))))) w → Sat w₀ (A j * G) w := by
    rintro w G p c j _ _ rfl rfl h
    exact Sat.to_ex p (Sat.to_ex c (h.perm (by ac_rfl)))
  have hA0 : Sat w₀ (A 0 * emp) w4 := hshut (p := none) (c := 0) 0 0 [] rfl rfl ((tab_nil T_api_Objref 36 orC h4.with_emp).perm (by
    show tab _ _ _ _ _ _ _ * (emp * (blk kk _ _ * (blk k1 _ _ * (blk b _ _ * (Ar a s * (blk k2 _ _ * (blk k4 _ _ * F))))))) = tab _ _ _ _ _ _ _ * (blk k4 _ _ * (blk k1 _ _ * (blk b _ _ * (blk k2 _ _ * (blk kk _ _ * (Ar a s * (F * emp)))))))
    ac_rfl))
  refine asF_ok ⟨w₀, fn_arena_Arena_All_1, _, (liveFrom 0 s.sp).map fun p => enc2 (pairOf p), A, fun _ => prop False, rfl, ⟨_, _, Try.func37, rfl⟩, hA0.left, ?_, All_iter (a := a) (t := t) hs (fun w h => ?_) (fun w h => ?_), ?_, ?_, ?_⟩
  · intro x hx
    obtain ⟨y, _, rfl⟩ := List.mem_map.1 hx
    rfl
  · obtain ⟨p, c, h⟩ := hopen (G := emp) 0 (h.with_emp.e1)
    exact h.right.right.right.right.right.left
  · obtain ⟨p, c, h⟩ := hopen (G := emp) 0 (h.with_emp.e1)
    exact h.right.right.right.right.right.right.left
  · intro j x hx G G' T w5 hT h5
    rw [List.getElem?_map] at hx
    obtain ⟨y, hy, rfl⟩ := Option.map_eq_some_iff.1 hx
    have hlt := (List.getElem?_eq_some_iff.1 hy).1
    have e2 : (liveFrom 0 s.sp).take (j + 1) = (liveFrom 0 s.sp).take j ++ [y] := by rw [List.take_add_one, hy]; rfl
    have e3 : liveFrom 0 s.sp = (liveFrom 0 s.sp).take j ++ y :: (liveFrom 0 s.sp).drop (j + 1) := by
      conv => lhs; rw [← List.take_append_drop j (liveFrom 0 s.sp), List.drop_eq_getElem_cons hlt]
      rw [List.getElem?_eq_getElem hlt] at hy
      cases hy
      rfl
    have hnd := live_nodup s.sp 0
    have hlg := live_get (s := s)
    rw [e3] at hnd
    obtain ⟨d1, d2, d3, _⟩ := dropAll_ok (z := ge0) (q := ofO o) hs (y :: (liveFrom 0 s.sp).drop (j + 1)) _ ((liveFrom 0 s.sp).take j) rfl hnd (by rw [← e3]; exact hlg)
    have hyj : (r j).1.sp[y.1]? = some y.2 := d3 y (.head _)
    have hy1 := (hlg y (List.mem_of_getElem? hy)).2
    have hrl : (r j).2.length ≤ j := by
      show (dropAll ge0 (ofO o) s ((liveFrom 0 s.sp).take j)).2.length ≤ j
      rw [dropAll_snd, List.length_map]
      refine Nat.le_trans (List.length_filter_le _ _) ?_
      rw [List.length_take]
      omega
    have hgy := d1.g y.2 (List.mem_of_getElem? hyj)
    have hpl := place_lt d1 hyj
    have hr := hd_range (i := y.1) (g := y.2.g) hpl (by omega) (by omega)
    refine ⟨_, _, rfl, new_ok h5 fun k16 w6 h6 => stA_ok h6 rfl (geF_size y.2.x) (geF_oneA y.2.x) fun w7 h7 => hT (blk k16 (geF y.2.x).toArray 72 * A j) _ _ (h7.perm (by ac_rfl)) fun w8 h8 => ?_⟩
    obtain ⟨p, c, h9⟩ := hopen (G := blk k16 (geF y.2.x).toArray 72 * G') j (h8.perm (by ac_rfl))
    have h10 := h9.perm (B := blk k16 (geF y.2.x).toArray 72 * (blk k2 #[.int .i64 o] 3 * (blk k1 #[.pointer (some ⟨b, 0, none⟩)] 23 * (blk b #[.pointer (some ⟨a, 0, none⟩)] T_git_Table * (Ar a (r j).1 * (tab T_api_Objref 36 orC p (r j).2.length c ((r j).2.map (·.2)) * (blk k4 #[.slice p (r j).2.length c] 39 * (blk kk #[.pointer (some ⟨a, 0, none⟩)] t * (F * G'))))))))) (by ac_rfl)
    refine ldI_ok (cell_blk h10 (i := 0) rfl) <| ldI_ok (h10.right.left.cell (i := 0) rfl) <| br_split (fun hq => ?_) (fun hq => ?_)
    · have hq : ofO o y.2.x = true := by simpa [ofO] using hq
      have er : r (j + 1) = (dropS ge0 (r j).1 y.1, (r j).2 ++ [y.2.x]) := by
        show dropAll ge0 (ofO o) s ((liveFrom 0 s.sp).take (j + 1)) = _
        rw [e2, dropAll_snoc, if_pos hq]
      refine ldP_ok (h10.right.right.left.cell (i := 0) rfl) <| nn_ok <| ldP_ok (h10.right.right.right.left.cell (i := 0) rfl) <| call_mono (arena_Drop_ok (s := (r j).1) (h10.perm (B := Ar a (r j).1 * (blk k16 (geF y.2.x).toArray 72 * (blk k2 #[.int .i64 o] 3 * (blk k1 #[.pointer (some ⟨b, 0, none⟩)] 23 * (blk b #[.pointer (some ⟨a, 0, none⟩)] T_git_Table * (tab T_api_Objref 36 orC p (r j).2.length c ((r j).2.map (·.2)) * (blk k4 #[.slice p (r j).2.length c] 39 * (blk kk #[.pointer (some ⟨a, 0, none⟩)] t * (F * G'))))))))) (by ac_rfl)) d1 hr.1 hr.2) ?_
      have hf : find (r j).1 (pairOf y).1 = some y.1 := (find_iff d1).2 ⟨y.2, hyj, hy1, rfl⟩
      rw [dropR_some hf hyj]
      rintro _ w9 ⟨rfl, h11⟩
      have h11 := h11.perm (B := blk k16 (geF y.2.x).toArray 72 * (blk k4 #[.slice p (r j).2.length c] 39 * (tab T_api_Objref 36 orC p (r j).2.length c ((r j).2.map (·.2)) * (blk k1 #[.pointer (some ⟨b, 0, none⟩)] 23 * (blk b #[.pointer (some ⟨a, 0, none⟩)] T_git_Table * (blk k2 #[.int .i64 o] 3 * (blk kk #[.pointer (some ⟨a, 0, none⟩)] t * (Ar a (dropS ge0 (r j).1 y.1) * (F * G'))))))))) (by ac_rfl)
      refine ⟨_, _, rfl, ldS_ok (h11.right.left.cell (i := 0) rfl) <| ldA_blk (o := 1) (n := 36) h11 (by simp [geF_len]) ?_⟩
      rw [geF_or]
      refine ⟨orF_sz y.2.x.2, new_ok h11.right fun k27 w10 h12 => ?_⟩
      refine tab_app orsTy orC_len (by decide) orC_one (x := y.2.x.2) (h12.perm (B := _ * (tab T_api_Objref 36 orC p (r j).2.length c ((r j).2.map (·.2)) * (blk k4 #[.slice p (r j).2.length c] 39 * (blk k1 #[.pointer (some ⟨b, 0, none⟩)] 23 * (blk b #[.pointer (some ⟨a, 0, none⟩)] T_git_Table * (blk k2 #[.int .i64 o] 3 * (blk kk #[.pointer (some ⟨a, 0, none⟩)] t * (Ar a (dropS ge0 (r j).1 y.1) * (F * G'))))))))) (by ac_rfl)) (orC_arr _).symm (by simp only [maxLen]; omega) (by omega) fun p' c' w11 h13 => ?_
      refine st_ok (i := 0) h13.p1 (by simp) fun w12 h14 => ?_
      refine hshut (p := p') (c := c') (j + 1) ((r j).2.length + 1) ((r j).2.map (·.2) ++ [y.2.x.2]) (by rw [er]; simp) (by rw [er]; simp) ?_
      rw [er]
      refine h14.perm ?_
      show blk k4 #[.slice p' ((r j).2.length + 1) c'] 39 * _ = _
      ac_rfl
    · have hq : ¬ ofO o y.2.x = true := by simpa [ofO] using hq
      have er : r (j + 1) = r j := by
        show dropAll ge0 (ofO o) s ((liveFrom 0 s.sp).take (j + 1)) = _
        rw [e2, dropAll_snoc, if_neg hq]
      refine hshut (p := p) (c := c) (j + 1) ((r j).2.length) ((r j).2.map (·.2)) (by rw [er]) (by rw [er]) ?_
      rw [er]
      exact h10.right.perm (by ac_rfl)
  · intro D w5 h5
    rw [List.length_map] at h5
    obtain ⟨p, c, h6⟩ := hopen _ h5.e1
    have er : r (liveFrom 0 s.sp).length = leave s o := by
      show dropAll ge0 (ofO o) s ((liveFrom 0 s.sp).take (liveFrom 0 s.sp).length) = _
      rw [List.take_length]
      rfl
    rw [er] at h6
    refine ldS_ok (h6.right.left.cell (i := 0) rfl) <| shutD_ok (h6.perm (B := markH D * (tab T_api_Objref 36 orC p (leave s o).2.length c ((leave s o).2.map (·.2)) * (Gt b a (leave s o).1 * (F * (blk k4 #[.slice p (leave s o).2.length c] 39 * (blk k1 #[.pointer (some ⟨b, 0, none⟩)] 23 * (blk k2 #[.int .i64 o] 3 * blk kk #[.pointer (some ⟨a, 0, none⟩)] t))))))) (by unfold Gt; ac_rfl)) fun w' h7 => ⟨p, _, c, rfl, rfl, ?_⟩
    exact (h7.perm (B := (blk k4 #[.slice p (leave s o).2.length c] 39 * (blk k1 #[.pointer (some ⟨b, 0, none⟩)] 23 * (blk k2 #[.int .i64 o] 3 * blk kk #[.pointer (some ⟨a, 0, none⟩)] t))) * (tab T_api_Objref 36 orC p (leave s o).2.length c ((leave s o).2.map (·.2)) * (Gt b a (leave s o).1 * F))) (by ac_rfl)).right
  · intro D c w5 h5
    exact (h5.e1.prop).elim
end Go.Proofs.Ytkgbfnlnpfedkaa
