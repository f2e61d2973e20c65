/- Contracts of layer 11 (heap): how the wholes hold one another. No conditions. -/
import Derived.Test.YtgchemgnmijpdaaHG1
set_option linter.unusedVariables false
set_option linter.unusedSimpArgs false
set_option maxRecDepth 100000
namespace Go.Proofs.Ytgchemgnmijpdaa
open Go.Sp Go.RowKit

def mapP (r : Nat) (f : Int → Option Int) : HP := mapH (fun x : Int => Value.int .u64 x) (fun x : Int => Value.int .i64 x) (fun _ => True) r f
structure GB where
  k1 : Nat
  k2 : Nat
  k3 : Nat
  k4 : Nat
  k5 : Nat
def GX (g : GB) (b a : Nat) (top : Int) (P : PM) (S : HS) (F : HP) (p : Option Addr) (c : Nat) (ws : List Int) : HP :=
  blk g.k1 #[.pointer (some ⟨b, 0, none⟩)] 23 * (blk g.k3 #[.slice p ws.length c] 28 * (tab T_uint64 1 fU64 p ws.length c ws * (blk g.k5 #[.map (some g.k4)] 117 * (mapP g.k4 (plc ws) * (HH b a top P S * (blk g.k2 #[.slice none 0 0, .slice none 0 0] 61 * F))))))
def GA (g : GB) (b a : Nat) (top : Int) (P : PM) (S : HS) (F : HP) (ws : List Int) : HP := ex fun p => ex fun c => GX g b a top P S F p c ws
section
variable {w₀ w : World} {F G : HP} {b a : Nat} {top : Int} {P : PM} {S : HS} {g : GB}
theorem GA.open_ {ws : List Int} (h : Sat w₀ (GA g b a top P S F ws * G) w) : ∃ p c, Sat w₀ (blk g.k1 #[.pointer (some ⟨b, 0, none⟩)] 23 * (blk g.k3 #[.slice p ws.length c] 28 * (tab T_uint64 1 fU64 p ws.length c ws * (blk g.k5 #[.map (some g.k4)] 117 * (mapP g.k4 (plc ws) * (HH b a top P S * (blk g.k2 #[.slice none 0 0, .slice none 0 0] 61 * (F * G)))))))) w := by
  obtain ⟨p, h⟩ := Sat.ex h
  obtain ⟨c, h⟩ := Sat.ex h
  exact ⟨p, c, h.perm (by rw [GX]; ac_rfl)⟩
theorem GA.shut {ws : List Int} {p : Option Addr} {c l : Nat} (h : Sat w₀ (blk g.k1 #[.pointer (some ⟨b, 0, none⟩)] 23 * (blk g.k3 #[.slice p l c] 28 * (tab T_uint64 1 fU64 p l c ws * (blk g.k5 #[.map (some g.k4)] 117 * (mapP g.k4 (plc ws) * (HH b a top P S * (blk g.k2 #[.slice none 0 0, .slice none 0 0] 61 * (F * G)))))))) w) (hl : l = ws.length) : Sat w₀ (GA g b a top P S F ws * G) w := by
  subst hl
  exact Sat.to_ex p (Sat.to_ex c (h.perm (by rw [GX]; ac_rfl)))
/-- What is being told of one whole. -/
def EA (k38 : Nat) (es : List Int) (X : HP) : HP := ex fun p => ex fun c => blk k38 #[.slice p es.length c] 43 * (tab T_int 1 fI p es.length c es * X)
theorem EA.open_ {k : Nat} {es : List Int} {X : HP} (h : Sat w₀ (EA k es X * G) w) : ∃ p c, Sat w₀ (blk k #[.slice p es.length c] 43 * (tab T_int 1 fI p es.length c es * (X * G))) w := by
  obtain ⟨p, h⟩ := Sat.ex h
  obtain ⟨c, h⟩ := Sat.ex h
  exact ⟨p, c, h.perm (by ac_rfl)⟩
theorem EA.shut {k l : Nat} {es : List Int} {X : HP} {p : Option Addr} {c : Nat} (h : Sat w₀ (blk k #[.slice p l c] 43 * (tab T_int 1 fI p l c es * (X * G))) w) (hl : l = es.length) : Sat w₀ (EA k es X * G) w := by
  subst hl
  exact Sat.to_ex p (Sat.to_ex c (h.perm (by ac_rfl)))
theorem heap_Graph_ok (hh : Sat w₀ (HH b a top P S * F) w) (hs : HInv top S) : call Try.prog fn_heap_Heap_Graph #[.pointer (some ⟨b, 0, none⟩)] w (GOut w₀ (HH b a top P S * F) S) := by
  apply heap_Heap_Graph_call
  unfold heap_Heap_Graph
  have hcnt := hs.toHBase.cnt
  refine new_ok hh fun k1 w1 h1 => new_ok h1 fun k2 w2 h2 => new_ok h2 fun k3 w3 h3 => newM_ok (fun x : Int => Value.int .u64 x) (fun x : Int => Value.int .i64 x) (fun _ => True) h3 fun k4 w4 h4 => new_ok h4 fun k5 w5 h5 => st_ok (i := 0) h5 (by simp) fun w6 h6 => ?_
  obtain ⟨g, hg⟩ : ∃ g : GB, g = ⟨k1, k2, k3, k4, k5⟩ := ⟨_, rfl⟩
  have h7 : Sat w₀ (GA g b a top P S F [] * emp) w6 := by
    refine GA.shut (p := none) (c := 0) (l := 0) ((tab_nil T_uint64 1 fU64 h6.with_emp).perm ?_) rfl
    rw [plc_nil, hg]
    show tab T_uint64 1 fU64 none 0 0 [] * (emp * (blk k5 #[.map (some k4)] 117 * (mapP k4 (fun _ => none) * (blk k3 _ 28 * (blk k2 _ 61 * (blk k1 _ 23 * (HH b a top P S * F))))))) = _
    dsimp only
    ac_rfl
  have e1 : k1 = g.k1 := by rw [hg]
  have e2 : k2 = g.k2 := by rw [hg]
  have e3 : k3 = g.k3 := by rw [hg]
  have e5 : k5 = g.k5 := by rw [hg]
  rw [e1, e2, e3, e5]
  clear hg e1 e2 e3 e5 h1 h2 h3 h4 h5 h6 hh
  obtain ⟨_, _, h7'⟩ := GA.open_ h7
  refine ldP_ok (cell_blk h7' (i := 0) rfl) <| call_mono (heap_All_ok h7) ?_
  clear h7'
  rintro _ w7 ⟨k, rfl, h8⟩
  have hA0 : Sat w₀ (blk k #[.pointer (some ⟨b, 0, none⟩)] 23 * GA g b a top P S F []) w7 := (h8.perm (B := emp * (blk k #[.pointer (some ⟨b, 0, none⟩)] 23 * GA g b a top P S F [])) (by ac_rfl)).right
  refine asF_ok ⟨w₀, fn_heap_Heap_All_1, _, (allFrom 0 S.sp).map enc1, fun j => blk k #[.pointer (some ⟨b, 0, none⟩)] 23 * GA g b a top P S F (((allFrom 0 S.sp).take j).filter (iso S)), fun _ => prop False,
    rfl, ⟨_, _, Try.func58, rfl⟩, hA0, (fun z hz => ?_), hAll_iter (P := P) (top := top) (a := a) hs.ok (fun w h => h.left) (fun w h => ?_), (fun j z hz G G' T w8 hT h9 => ?_), (fun D w8 h9 => ?_), (fun D c w8 h9 => ((h9.perm (B := prop False * markH D) (by ac_rfl)).prop).elim)⟩
  · obtain ⟨y, _, rfl⟩ := List.mem_map.1 hz
    rfl
  · obtain ⟨_, _, h⟩ := GA.open_ (h.right.with_emp.perm (B := GA g b a top P S F (((allFrom 0 S.sp).take 0).filter (iso S)) * emp) (by ac_rfl))
    exact h.right.right.right.right.right.left
  -- the wholes
  · rw [List.getElem?_map] at hz
    obtain ⟨y, hy, rfl⟩ := Option.map_eq_some_iff.1 hz
    have hym := List.mem_of_getElem? hy
    obtain ⟨o, hp⟩ := (pay_all hs.ok).2 hym
    have hyr := pay_range hs.ok hp
    obtain ⟨wk, hwk⟩ : ∃ wk, wk = ((allFrom 0 S.sp).take j).filter (iso S) := ⟨_, rfl⟩
    have hjl := (List.getElem?_eq_some_iff.1 hy).1
    have hal := all_cnt hs.ok
    have hwl : wk.length ≤ 256 := by
      have h1 := List.length_filter_le (iso S) ((allFrom 0 S.sp).take j)
      rw [← hwk, List.length_take] at h1
      omega
    have etk : (allFrom 0 S.sp).take (j + 1) = (allFrom 0 S.sp).take j ++ [y] := by rw [List.take_add_one, hy]; rfl
    have hnm : y ∉ wk := by
      rw [hwk]
      intro hm
      have hm := (List.mem_filter.1 hm).1
      have hnd := all_nodup hs.ok
      rw [← List.take_append_drop (j + 1) (allFrom 0 S.sp), etk] at hnd
      exact (List.nodup_append.1 (List.nodup_append.1 hnd).1).2.2 y hm y (.head _) rfl
    dsimp only at h9 ⊢
    rw [etk, List.filter_append]
    rw [← hwk] at h9 ⊢
    refine ⟨y, rfl, hT (blk k #[.pointer (some ⟨b, 0, none⟩)] 23 * GA g b a top P S F wk) _ _ h9 fun w9 h10 => ?_⟩
    obtain ⟨p, c, h11⟩ := GA.open_ (h10.perm (B := GA g b a top P S F wk * (blk k #[.pointer (some ⟨b, 0, none⟩)] 23 * G')) (by ac_rfl))
    refine ldP_ok (cell_blk h11 (i := 0) rfl) <| call_mono (heap_Whole_ok h11.right.right.right.right.right hs.ok (by omega) hyr.2) ?_
    rw [whole_some hp]
    have hiw := iso_whole hs hp
    rintro _ w10 ⟨rfl, rfl⟩
    refine ⟨_, _, rfl, br_split (fun he => ?_) (fun hne => ?_)⟩
    · have he : (if o.ou ≠ 0 then o.ou else y) = y := by simpa using he
      have hi := hiw.2 he
      have ef : [y].filter (iso S) = [y] := by simp [hi]
      rw [ef]
      refine ldM_ok (cell_blk h11.right.right.right (i := 0) rfl) <| ldS_ok (cell_blk h11.right (i := 0) rfl) <| setM_ok (v := (wk.length : Int)) placesTy (h11.perm (B := mapP g.k4 (plc wk) * (blk g.k1 #[.pointer (some ⟨b, 0, none⟩)] 23 * (blk g.k3 #[.slice p wk.length c] 28 * (tab T_uint64 1 fU64 p wk.length c wk * (blk g.k5 #[.map (some g.k4)] 117 * (HH b a top P S * (blk g.k2 #[.slice none 0 0, .slice none 0 0] 61 * (F * (blk k #[.pointer (some ⟨b, 0, none⟩)] 23 * G'))))))))) (by ac_rfl)) trivial fun w11 h12 => ?_
      rw [plc_snoc hnm] at h12
      have h12 : Sat w₀ (mapP g.k4 (plc (wk ++ [y])) * (blk g.k1 #[.pointer (some ⟨b, 0, none⟩)] 23 * (blk g.k3 #[.slice p wk.length c] 28 * (tab T_uint64 1 fU64 p wk.length c wk * (blk g.k5 #[.map (some g.k4)] 117 * (HH b a top P S * (blk g.k2 #[.slice none 0 0, .slice none 0 0] 61 * (F * (blk k #[.pointer (some ⟨b, 0, none⟩)] 23 * G'))))))))) w11 := h12
      refine ldS_ok (cell_blk h12.right.right (i := 0) rfl) <| new_ok h12 fun k21 w12 h13 => ?_
      refine tab_app u64sTy fU64_len (by decide) fU64_one (x := y) (h13.perm (B := blk k21 #[.int .u64 y] 29 * (tab T_uint64 1 fU64 p wk.length c wk * (mapP g.k4 (plc (wk ++ [y])) * (blk g.k1 #[.pointer (some ⟨b, 0, none⟩)] 23 * (blk g.k3 #[.slice p wk.length c] 28 * (blk g.k5 #[.map (some g.k4)] 117 * (HH b a top P S * (blk g.k2 #[.slice none 0 0, .slice none 0 0] 61 * (F * (blk k #[.pointer (some ⟨b, 0, none⟩)] 23 * G')))))))))) (by ac_rfl)) rfl (by simp only [maxLen]; omega) (by omega) fun p' c' w13 h14 => ?_
      refine st_ok (i := 0) (h14.perm (B := blk g.k3 #[.slice p wk.length c] 28 * (tab T_uint64 1 fU64 p' (wk.length + 1) c' (wk ++ [y]) * (mapP g.k4 (plc (wk ++ [y])) * (blk g.k1 #[.pointer (some ⟨b, 0, none⟩)] 23 * (blk g.k5 #[.map (some g.k4)] 117 * (HH b a top P S * (blk g.k2 #[.slice none 0 0, .slice none 0 0] 61 * (F * (blk k #[.pointer (some ⟨b, 0, none⟩)] 23 * G'))))))))) (by ac_rfl)) (by simp) fun w14 h15 => ?_
      exact (GA.shut (p := p') (c := c') (l := wk.length + 1) (ws := wk ++ [y]) (h15.perm (B := blk g.k1 #[.pointer (some ⟨b, 0, none⟩)] 23 * (blk g.k3 #[.slice p' (wk.length + 1) c'] 28 * (tab T_uint64 1 fU64 p' (wk.length + 1) c' (wk ++ [y]) * (blk g.k5 #[.map (some g.k4)] 117 * (mapP g.k4 (plc (wk ++ [y])) * (HH b a top P S * (blk g.k2 #[.slice none 0 0, .slice none 0 0] 61 * (F * (blk k #[.pointer (some ⟨b, 0, none⟩)] 23 * G'))))))))) (by
        show blk g.k3 #[.slice p' (wk.length + 1) c'] 28 * _ = _
        ac_rfl)) (by simp)).perm (by ac_rfl)
    · have hne : ¬ (if o.ou ≠ 0 then o.ou else y) = y := by simpa using hne
      have hi : iso S y = false := by
        cases hb : iso S y with
        | false => rfl
        | true => exact absurd (hiw.1 hb) hne
      have ef : [y].filter (iso S) = [] := by simp [hi]
      rw [ef, List.append_nil]
      exact h10
  -- how they hold one another
  dsimp only at h9
  rw [List.length_map, List.take_length] at h9
  have ews : (allFrom 0 S.sp).filter (iso S) = whs S := rfl
  rw [ews] at h9
  obtain ⟨ws, hws⟩ : ∃ ws, ws = whs S := ⟨_, rfl⟩
  rw [← hws] at h9
  have hwl := whs_len hs.ok
  rw [← hws] at hwl
  refine new_ok h9 fun k24 w9 h10 => ?_
  obtain ⟨p25, c25, h11⟩ := GA.open_ (h10.perm (B := GA g b a top P S F ws * (blk k #[.pointer (some ⟨b, 0, none⟩)] 23 * (blk k24 #[.slice none 0 0, .slice none 0 0] 61 * markH D))) (by ac_rfl))
  have h12 : Sat w₀ (marksH [D] * (blk k24 #[.slice none 0 0, .slice none 0 0] 61 * GX g b a top P S F p25 c25 ws)) w9 :=
    (h11.perm (B := blk k #[.pointer (some ⟨b, 0, none⟩)] 23 * (markH D * (blk k24 #[.slice none 0 0, .slice none 0 0] 61 * GX g b a top P S F p25 c25 ws))) (by rw [GX]; ac_rfl)).right.with_emp.perm (by rw [marksH, marksH]; ac_rfl)
  refine ldS_ok (cell_blk h11.right (i := 0) rfl) ?_
  clear h7 h8 hA0 h9 h10 h11
  refine ⟨fun n ds w m => ∃ Ds cs rows pc cc pe ce, 0 ≤ n ∧ n ≤ ws.length ∧ m = ws.length - n.toNat ∧ ds = Ds.map markD ∧ rows.map (·.l) = (ws.take n.toNat).map (edgs S ws) ∧ cs = (ws.take n.toNat).map (cnO S) ∧
      Sat w₀ (marksH Ds * (blk k24 #[.slice pc cs.length cc, .slice pe rows.length ce] 61 * (GrH pc cc pe ce cs rows * GX g b a top P S F p25 c25 ws))) w,
    ⟨_, [D], [], [], none, 0, none, 0, by decide, by omega, rfl, rfl, rfl, rfl, (tab_nil 27 1 fU32 (tab_nil 43 1 esF h12.with_emp)).perm (by
      show tab 27 1 fU32 none 0 0 [] * (tab 43 1 esF none 0 0 [] * (emp * _)) = marksH [D] * (blk k24 #[.slice none 0 0, .slice none 0 0] 61 * ((tab 27 1 fU32 none 0 0 [] * (tab 43 1 esF none 0 0 [] * emp)) * _))
      ac_rfl)⟩, ?_⟩
  clear h12
  rintro u ds n w10 m ⟨Ds, cs, rows, pc, cc, pe, ce, n0, nl, rfl, rfl, hrows, hcs, h13⟩
  have hrl : rows.length = n.toNat := by
    have := congrArg List.length hrows
    rw [List.length_map, List.length_map, List.length_take] at this
    omega
  have hcl : cs.length = n.toNat := by rw [hcs, List.length_map, List.length_take]; omega
  refine br_dec (fun hlt => ?_) (fun hge => ?_)
  case refine_2 =>
    have hn : n.toNat = ws.length := by omega
    rw [hn, List.take_length] at hrows hcs
    have h13 := h13.drew
    have hGX := h13.right.right.right
    refine ldA_blk0 h13.right rfl <| ldS_ok (cell_blk (show Sat w₀ (blk g.k1 _ _ * _) _ from hGX).right (i := 0) rfl) <| stA_ok (h13.perm (B := blk g.k2 #[.slice none 0 0, .slice none 0 0] 61 * (blk g.k3 #[.slice p25 ws.length c25] 28 * (marksH Ds * (blk k24 #[.slice pc cs.length cc, .slice pe rows.length ce] 61 * (blk g.k1 #[.pointer (some ⟨b, 0, none⟩)] 23 * (blk g.k5 #[.map (some g.k4)] 117 * (mapP g.k4 (plc ws) * (GrH pc cc pe ce cs rows * (tab T_uint64 1 fU64 p25 ws.length c25 ws * (HH b a top P S * F)))))))))) (by rw [GX]; ac_rfl)) rfl rfl (by simp [Value.oneCell']) fun w11 h14 => ⟨cell_blk h14.right (i := 0) rfl, ?_⟩
    refine marksW_ok (h14.perm (B := marksH Ds * (blk g.k2 #[.slice pc cs.length cc, .slice pe rows.length ce] 61 * (blk g.k3 #[.slice p25 ws.length c25] 28 * (blk k24 #[.slice pc cs.length cc, .slice pe rows.length ce] 61 * (blk g.k1 #[.pointer (some ⟨b, 0, none⟩)] 23 * (blk g.k5 #[.map (some g.k4)] 117 * (mapP g.k4 (plc ws) * (GrH pc cc pe ce cs rows * (tab T_uint64 1 fU64 p25 ws.length c25 ws * (HH b a top P S * F)))))))))) (by ac_rfl)) fun w12 h15 => ?_
    have e1 : rows.length = (whs S).length := by rw [← hws, hrl, hn]
    have e2 : cs.length = (whs S).length := by rw [← hws, hcl, hn]
    refine ldA_blk0 h15 rfl ⟨pc, cc, pe, ce, p25, c25, rows, by rw [← hws]; exact hrows, by rw [e1, e2, hws], ?_⟩
    rw [hws] at hcs
    rw [← hcs, ← hws]
    exact h15.right.right.right.right.right.right
  have hi : n.toNat < ws.length := by omega
  obtain ⟨h, hh⟩ : ∃ h, ws[n.toNat]? = some h := ⟨_, List.getElem?_eq_getElem hi⟩
  obtain ⟨o, hp, ho0⟩ := whs_live hs.ok (hws ▸ List.mem_of_getElem? hh)
  have hhr := pay_range hs.ok hp
  have hro := hs.rng h o hp
  have hil := hs.innlen hp
  have hGX : Sat w₀ (blk g.k1 #[.pointer (some ⟨b, 0, none⟩)] 23 * (blk g.k3 #[.slice p25 ws.length c25] 28 * (tab T_uint64 1 fU64 p25 ws.length c25 ws * (blk g.k5 #[.map (some g.k4)] 117 * (mapP g.k4 (plc ws) * (HH b a top P S * (blk g.k2 #[.slice none 0 0, .slice none 0 0] 61 * F))))))) w10 := h13.right.right.right
  refine tab_idx fU64_len hGX.right.right.left (by decide) n0 hh fun ga hga => ldI_ok (n := h) (by have := tab_cell fU64_len hGX.right.right.left hga hh (j := 0) (by decide) rfl; rwa [Sp.add_zero] at this) <| ldP_ok (cell_blk hGX (i := 0) rfl) <| call_mono (hfind_ok hGX.right.right.right.right.right hs.ok (by omega) hhr.2) ?_
  rintro _ w11 ⟨rfl, ⟨hp', rfl⟩ | ⟨ko, o', hp', hko, rfl⟩⟩
  · rw [hp] at hp'; cases hp'
  rw [hp] at hp'
  cases hp'
  refine ⟨_, _, rfl, new_ok h13 fun k38 w12 h14 => new_ok h14 fun k39 w13 h15 => ?_⟩
  have h16 : Sat w₀ (tab T_uint64 1 fU64 (some ⟨k39, 0, none⟩) 1 1 [h] * (blk k38 #[.slice none 0 0] 43 * (marksH Ds * (blk k24 #[.slice pc cs.length cc, .slice pe rows.length ce] 61 * (GrH pc cc pe ce cs rows * GX g b a top P S F p25 c25 ws))))) w13 := h15.own_full (t := T_uint64) (sz := 1) (n := 1) rfl (by decide)
  have hHH : ∀ {w : World}, Sat w₀ (GX g b a top P S F p25 c25 ws) w → Sat w₀ (HH b a top P S * (blk g.k2 #[.slice none 0 0, .slice none 0 0] 61 * F)) w := fun h => (show Sat w₀ (blk g.k1 _ _ * (blk g.k3 _ _ * (tab _ _ _ _ _ _ _ * (blk g.k5 _ _ * (mapP _ _ * _))))) _ from h).right.right.right.right.right
  obtain ⟨ko', L, R, hko', hat, _⟩ := HH.at (hHH h16.right.right.right.right.right) hs.ok hp
  rw [hko] at hko'
  cases hko'
  have hrd : Rd w13 1 L.pi o.inn.length (o.inn.flatMap fU64) := (obj_open hat).right.right.left.rd
  refine nn_ok <| ldS_ok (obj_cell hat (i := 4) rfl) <| tab_more (ys := [h]) (l := 1) u64sTy fU64_len fU64_one h16 hrd (by simp only [maxLen]; omega) (by omega) fun p42 c42 w14 h17 => ?_
  have h17 : Sat w₀ (tab T_uint64 1 fU64 p42 (1 + o.inn.length) c42 (h :: o.inn) * (blk k38 #[.slice none 0 0] 43 * (marksH Ds * (blk k24 #[.slice pc cs.length cc, .slice pe rows.length ce] 61 * (GrH pc cc pe ce cs rows * GX g b a top P S F p25 c25 ws))))) w14 := h17
  clear hat hrd hGX h13 h14 h15 h16
  obtain ⟨ps, hps⟩ : ∃ ps, ps = h :: o.inn := ⟨_, rfl⟩
  have hpsl : ps.length = 1 + o.inn.length := by rw [hps, List.length_cons]; omega
  have hpin : inOf S h = o.inn := by rw [inOf, hp]
  have hplive : ∀ i ∈ ps, ∃ o, pay S i = some o := (hps ▸ (hs.goers hp ho0).2)
  rw [← hps, ← hpsl] at h17
  rw [← hpsl]
  have hesl : ∀ j : Nat, (((ps.take j).flatMap (lnOf S)).filterMap (edge S ws)).length ≤ 8 * (S.cnt + 1) := fun j => by
    have h1 := edgs_len hs ws (h := h)
    have h2 : ∀ l : List Int, (l.flatMap (lnOf S)).length ≤ 8 * l.length := fun l => by
      induction l with
      | nil => simp
      | cons a l ih =>
        have h2 : (lnOf S a).length ≤ 8 := by
          unfold lnOf
          split
          · rename_i o hp; exact (hs.rng a o hp).len
          · simp
        rw [List.flatMap_cons, List.length_append, List.length_cons]
        omega
    have h3 := h2 (ps.take j)
    have h4 := List.length_filterMap_le (edge S ws) ((ps.take j).flatMap (lnOf S))
    rw [List.length_take] at h3
    omega
  refine ⟨fun i ds w m => ∃ Ds, 0 ≤ i ∧ i ≤ ps.length ∧ m = ps.length - i.toNat ∧ ds = Ds.map markD ∧
      Sat w₀ (EA k38 (((ps.take i.toNat).flatMap (lnOf S)).filterMap (edge S ws)) (marksH Ds * (tab T_uint64 1 fU64 p42 ps.length c42 ps * (blk k24 #[.slice pc cs.length cc, .slice pe rows.length ce] 61 * (GrH pc cc pe ce cs rows * GX g b a top P S F p25 c25 ws)))) * emp) w,
    ⟨_, Ds, by decide, by omega, rfl, rfl, EA.shut (p := none) (l := 0) (c := 0) ((tab_nil T_int 1 fI h17.with_emp).perm (by
      show tab T_int 1 fI none 0 0 [] * (emp * (tab T_uint64 1 fU64 p42 ps.length c42 ps * (blk k38 #[.slice none 0 0] 43 * (marksH Ds * _)))) = blk k38 #[.slice none 0 0] 43 * (tab T_int 1 fI none 0 0 [] * _)
      ac_rfl)) rfl⟩, ?_⟩
  clear h17
  rintro u ds i w15 m ⟨Ds, i0, il, rfl, rfl, h18⟩
  refine br_dec (fun hilt => ?_) (fun hige => ?_)
  · -- a part
    have hii : i.toNat < ps.length := by omega
    obtain ⟨x, hx⟩ : ∃ x, ps[i.toNat]? = some x := ⟨_, List.getElem?_eq_getElem hii⟩
    obtain ⟨q, hq⟩ := hplive x (List.mem_of_getElem? hx)
    have hxr := pay_range hs.ok hq
    have hqr := hs.rng x q hq
    have hq8 := hqr.len
    obtain ⟨es, hes⟩ : ∃ es, es = ((ps.take i.toNat).flatMap (lnOf S)).filterMap (edge S ws) := ⟨_, rfl⟩
    have hesn := hesl i.toNat
    rw [← hes] at h18 hesn
    obtain ⟨X, hX⟩ : ∃ X : HP, X = (marksH Ds * (tab T_uint64 1 fU64 p42 ps.length c42 ps * (blk k24 #[.slice pc cs.length cc, .slice pe rows.length ce] 61 * (GrH pc cc pe ce cs rows * GX g b a top P S F p25 c25 ws)))) := ⟨_, rfl⟩
    have toG : ∀ {w : World} {Y : HP}, Sat w₀ (X * Y) w → Sat w₀ (GX g b a top P S F p25 c25 ws) w := fun h => by rw [hX] at h; exact h.left.right.right.right.right
    have toGk : ∀ {w : World}, Sat w₀ (GX g b a top P S F p25 c25 ws) w → w.cell? (⟨g.k1, 0, none⟩ : Addr) = some (.pointer (some ⟨b, 0, none⟩)) := fun h => by
      have := cell_blk (show Sat w₀ (blk g.k1 #[.pointer (some ⟨b, 0, none⟩)] 23 * _) _ from h) (i := 0) rfl
      rwa [Sp.add_zero] at this
    have toGm : ∀ {w : World}, Sat w₀ (GX g b a top P S F p25 c25 ws) w → Sat w₀ (blk g.k5 #[.map (some g.k4)] 117 * (mapP g.k4 (plc ws) * (HH b a top P S * (blk g.k2 #[.slice none 0 0, .slice none 0 0] 61 * F)))) w := fun h => (show Sat w₀ (blk g.k1 _ _ * (blk g.k3 _ _ * (tab _ _ _ _ _ _ _ * _))) _ from h).right.right.right
    rw [← hX] at h18
    obtain ⟨_, _, h18'⟩ := EA.open_ h18
    have hps' : Sat w₀ (tab T_uint64 1 fU64 p42 ps.length c42 ps) w15 := by have := h18'.right.right.left; rw [hX] at this; exact this.right.left
    refine tab_idx fU64_len hps' (by decide) i0 hx fun ga hga => ldI_ok (n := x) (by have := tab_cell fU64_len hps' hga hx (j := 0) (by decide) rfl; rwa [Sp.add_zero] at this) <| ldP_ok (toGk (toG h18'.right.right)) <| call_mono (heap_Links_ok (h := x) h18) ?_
    clear h18' hps'
    rintro _ w16 ⟨kk, kk', rfl, h19⟩
    have hB0 : Sat w₀ (blk kk' #[.int .u64 x] 29 * (blk kk #[.pointer (some ⟨b, 0, none⟩)] 23 * EA k38 (es ++ (q.ln.take 0).filterMap (edge S ws)) X)) w16 := by
      rw [List.take_zero, List.filterMap_nil, List.append_nil]
      exact (h19.perm (B := emp * (blk kk' #[.int .u64 x] 29 * (blk kk #[.pointer (some ⟨b, 0, none⟩)] 23 * EA k38 es X))) (by ac_rfl)).right
    refine asF_ok ⟨w₀, fn_heap_Heap_Links_1, _, q.ln.zipIdx.map encL, fun j => blk kk' #[.int .u64 x] 29 * (blk kk #[.pointer (some ⟨b, 0, none⟩)] 23 * EA k38 (es ++ (q.ln.take j).filterMap (edge S ws)) X), fun _ => prop False,
      rfl, ⟨_, _, Try.func62, rfl⟩, hB0, (fun z hz => ?_), hLinks_iter (P := P) (top := top) (a := a) (b := b) hs.toHBase hq (fun w h => h.right.left) (fun w h => h.left) (fun w h => ?_), (fun j z hz G G' T w17 hT h20 => ?_), (fun D w17 h20 => ?_), (fun D c w17 h20 => ((h20.perm (B := prop False * markH D) (by ac_rfl)).prop).elim)⟩
    · obtain ⟨y, _, rfl⟩ := List.mem_map.1 hz
      rfl
    · obtain ⟨_, _, h⟩ := EA.open_ (h.right.right.with_emp.perm (B := EA k38 (es ++ (q.ln.take 0).filterMap (edge S ws)) X * emp) (by ac_rfl))
      exact (hHH (toG h.right.right)).left
    -- a link
    · rw [List.getElem?_map, List.getElem?_zipIdx] at hz
      obtain ⟨⟨y, jj⟩, hy, rfl⟩ := Option.map_eq_some_iff.1 hz
      obtain ⟨y', hy', e⟩ := Option.map_eq_some_iff.1 hy
      cases e
      have hjl := (List.getElem?_eq_some_iff.1 hy').1
      have hyo := hqr.ln y (List.mem_of_getElem? hy')
      obtain ⟨ek, hek⟩ : ∃ ek, ek = es ++ (q.ln.take j).filterMap (edge S ws) := ⟨_, rfl⟩
      have hekl : ek.length ≤ 5000 := by
        have h1 := List.length_filterMap_le (edge S ws) (q.ln.take j)
        rw [List.length_take] at h1
        rw [hek, List.length_append]
        omega
      have etk : es ++ (q.ln.take (j + 1)).filterMap (edge S ws) = ek ++ (match edge S ws y with | some n => [n] | none => []) := by
        rw [hek, List.take_add_one, hy', Option.toList_some, List.filterMap_append, List.append_assoc]
        congr 2
        cases he : edge S ws y <;> simp [he]
      dsimp only at h20 ⊢
      rw [etk]
      rw [← hek] at h20
      refine ⟨_, _, rfl, new_ok h20 fun k60 w18 h21 => stA_ok h21 rfl rfl (lnA_one y) fun w19 h22 => hT (blk k60 (lnA y) 35 * (blk kk' #[.int .u64 x] 29 * (blk kk #[.pointer (some ⟨b, 0, none⟩)] 23 * EA k38 ek X))) _ _ (h22.perm (by
        show blk k60 (lnA y) 35 * _ = _
        ac_rfl)) fun w20 h23 => ?_⟩
      have h24 : Sat w₀ (blk k60 (lnA y) 35 * (EA k38 ek X * (blk kk' #[.int .u64 x] 29 * (blk kk #[.pointer (some ⟨b, 0, none⟩)] 23 * G')))) w20 := h23.perm (by ac_rfl)
      have skip : edge S ws y = none → Sat w₀ (blk kk' #[.int .u64 x] 29 * (blk kk #[.pointer (some ⟨b, 0, none⟩)] 23 * EA k38 (ek ++ (match edge S ws y with | some n => [n] | none => [])) X) * G') w20 := fun he => by
        rw [he]
        dsimp only
        rw [List.append_nil]
        exact h24.right.perm (by ac_rfl)
      refine ldI_ok (n := y.1) (cell_blk h24 (i := 0) rfl) <| br_split (fun hne => skip ?_) (fun he => ?_)
      · have hne : y.1 ≠ 1 := by simpa using hne
        rw [edge, if_neg hne]
      have he : y.1 = 1 := by simpa using he
      obtain ⟨pe', ce', h25⟩ := EA.open_ h24.right
      have hGX := toG h25.right.right
      refine ldP_ok (toGk hGX) <| ldI_ok (n := y.2) (cell_blk h24 (i := 1) rfl) <| call_mono (heap_Whole_ok (hHH hGX) hs.ok hyo.2.1 hyo.2.2) ?_
      rintro _ w21 ⟨rfl, rfl⟩
      cases hw : whole S y.2 with
      | none =>
        refine ⟨_, _, rfl, br_false rfl (skip ?_)⟩
        rw [edge, if_pos he, hw]
        rfl
      | some z =>
        have hzm : z ∈ ws := hws ▸ whole_whs hs hw
        have hed : edge S ws y = some (ws.idxOf z : Int) := by rw [edge, if_pos he, hw]; rfl
        have hpl : plc ws z = some (ws.idxOf z : Int) := by rw [plc, if_pos hzm]
        rw [hed]
        dsimp only
        have hM := toGm hGX
        refine ⟨_, _, rfl, br_true rfl <| ldS_ok (by have := cell_blk h25 (i := 0) (v := .slice pe' ek.length ce') rfl; rwa [Sp.add_zero] at this) <| ldM_ok (by have := cell_blk hM (i := 0) (v := .map (some g.k4)) rfl; rwa [Sp.add_zero] at this) <| look_ok (kf := fun x : Int => Value.int .u64 x) (vf := fun x : Int => Value.int .i64 x) (S := fun _ => True) placesTy (x := z) hM.right trivial (izero _) ?_⟩
        rw [hpl]
        refine asI_ok <| new_ok h25 fun k71 w22 h26 => ?_
        refine tab_app intsTy fI_len (by decide) fI_one (x := (ws.idxOf z : Int)) (h26.perm (B := blk k71 #[.int .i64 (ws.idxOf z : Int)] 3 * (tab T_int 1 fI pe' ek.length ce' ek * (blk k38 #[.slice pe' ek.length ce'] 43 * (X * (blk kk' #[.int .u64 x] 29 * (blk kk #[.pointer (some ⟨b, 0, none⟩)] 23 * G')))))) (by ac_rfl)) rfl (by simp only [maxLen]; omega) (by omega) fun p' c' w23 h27 => ?_
        refine st_ok (i := 0) (h27.perm (B := blk k38 #[.slice pe' ek.length ce'] 43 * (tab T_int 1 fI p' (ek.length + 1) c' (ek ++ [(ws.idxOf z : Int)]) * (X * (blk kk' #[.int .u64 x] 29 * (blk kk #[.pointer (some ⟨b, 0, none⟩)] 23 * G'))))) (by ac_rfl)) (by simp) fun w24 h28 => ?_
        exact (EA.shut (k := k38) (p := p') (c := c') (l := ek.length + 1) (es := ek ++ [(ws.idxOf z : Int)]) (X := X) h28 (by simp)).perm (by ac_rfl)
    · dsimp only at h20
      rw [List.length_map, List.length_zipIdx, List.take_length] at h20
      have etk : ((ps.take (i + 1).toNat).flatMap (lnOf S)).filterMap (edge S ws) = es ++ q.ln.filterMap (edge S ws) := by
        rw [show (i + 1).toNat = i.toNat + 1 by omega, List.take_add_one, hx, hes, List.flatMap_append, List.filterMap_append]
        congr 1
        simp [lnOf, hq]
      refine arith_i64 (by omega) (by omega) ⟨_, ?_, D :: Ds, by omega, by omega, rfl, rfl, ?_⟩
      · omega
      · rw [etk]
        obtain ⟨p', c', h21⟩ := EA.open_ (h20.perm (B := EA k38 (es ++ q.ln.filterMap (edge S ws)) X * (blk kk' #[.int .u64 x] 29 * (blk kk #[.pointer (some ⟨b, 0, none⟩)] 23 * markH D))) (by ac_rfl))
        refine EA.shut (p := p') (c := c') ?_ rfl
        have h22 := (h21.perm (B := (blk kk' #[.int .u64 x] 29 * blk kk #[.pointer (some ⟨b, 0, none⟩)] 23) * (markH D * (blk k38 #[.slice p' (es ++ q.ln.filterMap (edge S ws)).length c'] 43 * (tab T_int 1 fI p' (es ++ q.ln.filterMap (edge S ws)).length c' (es ++ q.ln.filterMap (edge S ws)) * X)))) (by ac_rfl)).right.with_emp
        exact h22.perm (by rw [hX, marksH]; ac_rfl)
  · -- told
    have ei : ps.take i.toNat = ps := List.take_of_length_le (by omega)
    have hesn := hesl i.toNat
    rw [ei] at h18 hesn
    have hed : (ps.flatMap (lnOf S)).filterMap (edge S ws) = edgs S ws h := by rw [edgs, hpin, hps]
    rw [hed] at h18 hesn
    obtain ⟨es, hes⟩ : ∃ es, es = edgs S ws h := ⟨_, rfl⟩
    rw [← hes] at h18 hesn
    obtain ⟨p84, c84, h19⟩ := EA.open_ h18.drew
    have h19 : Sat w₀ (blk k38 #[.slice p84 es.length c84] 43 * (tab T_int 1 fI p84 es.length c84 es * (marksH Ds * (tab T_uint64 1 fU64 p42 ps.length c42 ps * (blk k24 #[.slice pc cs.length cc, .slice pe rows.length ce] 61 * (GrH pc cc pe ce cs rows * GX g b a top P S F p25 c25 ws)))))) w15.drew :=
      (h19.perm (B := emp * (blk k38 #[.slice p84 es.length c84] 43 * (tab T_int 1 fI p84 es.length c84 es * (marksH Ds * (tab T_uint64 1 fU64 p42 ps.length c42 ps * (blk k24 #[.slice pc cs.length cc, .slice pe rows.length ce] 61 * (GrH pc cc pe ce cs rows * GX g b a top P S F p25 c25 ws))))))) (by ac_rfl)).right
    obtain ⟨ko', L, R, hko', hat, _⟩ := HH.at (hHH h19.right.right.right.right.right.right) hs.ok hp
    rw [hko] at hko'
    cases hko'
    have hcnr := hro.cn
    refine ldS_ok (cell_blk h19.right.right.right.right (i := 0) rfl) <| nn_ok <| ldI_ok (n := o.cn) (obj_cell hat (i := 0) rfl) <| new_ok h19 fun k81 w16 h20 => ?_
    refine tab_app u32sTy fU32_len (by decide) fU32_one (x := o.cn) (h20.perm (B := blk k81 #[.int .u32 o.cn] 27 * (tab 27 1 fU32 pc cs.length cc cs * (blk k24 #[.slice pc cs.length cc, .slice pe rows.length ce] 61 * (blk k38 #[.slice p84 es.length c84] 43 * (tab T_int 1 fI p84 es.length c84 es * (marksH Ds * (tab T_uint64 1 fU64 p42 ps.length c42 ps * ((tab 43 1 esF pe rows.length ce rows * ersH rows) * GX g b a top P S F p25 c25 ws)))))))) (by
      rw [GrH]
      ac_rfl)) rfl (by simp only [maxLen]; omega) (by omega) fun p82 c82 w17 h21 => ?_
    refine st_ok (i := 0) (h21.perm (B := blk k24 #[.slice pc cs.length cc, .slice pe rows.length ce] 61 * (tab 27 1 fU32 p82 (cs.length + 1) c82 (cs ++ [o.cn]) * (blk k38 #[.slice p84 es.length c84] 43 * (tab T_int 1 fI p84 es.length c84 es * (marksH Ds * (tab T_uint64 1 fU64 p42 ps.length c42 ps * ((tab 43 1 esF pe rows.length ce rows * ersH rows) * GX g b a top P S F p25 c25 ws))))))) (by ac_rfl)) (by simp) fun w18 h22 => ?_
    have h22 : Sat w₀ (blk k24 #[.slice p82 (cs.length + 1) c82, .slice pe rows.length ce] 61 * (tab 27 1 fU32 p82 (cs.length + 1) c82 (cs ++ [o.cn]) * (blk k38 #[.slice p84 es.length c84] 43 * (tab T_int 1 fI p84 es.length c84 es * (marksH Ds * (tab T_uint64 1 fU64 p42 ps.length c42 ps * ((tab 43 1 esF pe rows.length ce rows * ersH rows) * GX g b a top P S F p25 c25 ws))))))) w18 := h22
    refine ldS_ok (cell_blk h22 (i := 1) rfl) <| ldS_ok (by have := cell_blk h22.right.right (i := 0) (v := .slice p84 es.length c84) rfl; rwa [Sp.add_zero] at this) <| new_ok h22 fun k85 w19 h23 => ?_
    refine tab_app slsTy esF_len (by decide) esF_one (x := (⟨p84, c84, es⟩ : ERow)) (h23.perm (B := blk k85 #[.slice p84 es.length c84] 43 * (tab 43 1 esF pe rows.length ce rows * (blk k24 #[.slice p82 (cs.length + 1) c82, .slice pe rows.length ce] 61 * (tab 27 1 fU32 p82 (cs.length + 1) c82 (cs ++ [o.cn]) * (blk k38 #[.slice p84 es.length c84] 43 * (tab T_int 1 fI p84 es.length c84 es * (marksH Ds * (tab T_uint64 1 fU64 p42 ps.length c42 ps * (ersH rows * GX g b a top P S F p25 c25 ws))))))))) (by ac_rfl)) rfl (by simp only [maxLen]; omega) (by omega) fun p86 c86 w20 h24 => ?_
    refine st_ok (i := 1) (h24.perm (B := blk k24 #[.slice p82 (cs.length + 1) c82, .slice pe rows.length ce] 61 * (tab 43 1 esF p86 (rows.length + 1) c86 (rows ++ [⟨p84, c84, es⟩]) * (tab 27 1 fU32 p82 (cs.length + 1) c82 (cs ++ [o.cn]) * (blk k38 #[.slice p84 es.length c84] 43 * (tab T_int 1 fI p84 es.length c84 es * (marksH Ds * (tab T_uint64 1 fU64 p42 ps.length c42 ps * (ersH rows * GX g b a top P S F p25 c25 ws)))))))) (by ac_rfl)) (by simp) fun w21 h25 => ?_
    have etk : ws.take (n + 1).toNat = ws.take n.toNat ++ [h] := by rw [show (n + 1).toNat = n.toNat + 1 by omega, List.take_add_one, hh]; rfl
    refine arith_i64 (by omega) (by omega) ⟨_, ?_, Ds, cs ++ [o.cn], rows ++ [⟨p84, c84, es⟩], p82, c82, p86, c86, by omega, by omega, rfl, rfl, ?_, ?_, ?_⟩
    · omega
    · rw [etk, List.map_append, List.map_append, hrows, hes]
      rfl
    · rw [etk, List.map_append, hcs]
      simp [cnO, hp]
    · have e1 : (cs ++ [o.cn]).length = cs.length + 1 := by simp
      have e2 : (rows ++ [(⟨p84, c84, es⟩ : ERow)]).length = rows.length + 1 := by simp
      have h25 : Sat w₀ (blk k24 #[.slice p82 (cs.length + 1) c82, .slice p86 (rows.length + 1) c86] 61 * (tab 43 1 esF p86 (rows.length + 1) c86 (rows ++ [⟨p84, c84, es⟩]) * (tab 27 1 fU32 p82 (cs.length + 1) c82 (cs ++ [o.cn]) * (blk k38 #[.slice p84 es.length c84] 43 * (tab T_int 1 fI p84 es.length c84 es * (marksH Ds * (tab T_uint64 1 fU64 p42 ps.length c42 ps * (ersH rows * GX g b a top P S F p25 c25 ws)))))))) w21 := h25
      rw [GrH, e1, e2, ersH_snoc, esH]
      dsimp only
      have h26 := (h25.perm (B := (blk k38 #[.slice p84 es.length c84] 43 * tab T_uint64 1 fU64 p42 ps.length c42 ps) * (marksH Ds * (blk k24 #[.slice p82 (cs.length + 1) c82, .slice p86 (rows.length + 1) c86] 61 * (tab 27 1 fU32 p82 (cs.length + 1) c82 (cs ++ [o.cn]) * (tab 43 1 esF p86 (rows.length + 1) c86 (rows ++ [⟨p84, c84, es⟩]) * (tab T_int 1 fI p84 es.length c84 es * (ersH rows * GX g b a top P S F p25 c25 ws))))))) (by ac_rfl)).right
      exact h26.perm (by ac_rfl)
end
end Go.Proofs.Ytgchemgnmijpdaa
