/- Contracts of the document's heap: how the wholes hold one another. No conditions. -/
import Derived.Test.YtgchemgnmijpdaaHG1
import Derived.Test.YtgchemgnmijpdaaHP3
set_option linter.unusedVariables false
set_option linter.unusedSimpArgs false
set_option maxRecDepth 100000
namespace Go.Proofs.Ytgchemgnmijpdaa
open Go.Sp Go.RowKit

section
variable {w₀ w : World} {F G : HP} {r a : Nat} {top : Int} {Q : PM} {S : HS}
theorem rh_Graph_ok (hh : Sat w₀ (RH r a top Q S * F) w) (hs : HInv top S) : call Try.prog fn_tenonref11_Heap_Graph #[.pointer (some ⟨r, 0, none⟩)] w (GOut w₀ (RH r a top Q S * F) S) := by
  apply tenonref11_Heap_Graph_call
  unfold tenonref11_Heap_Graph
  have hcnt := hs.toHBase.cnt
  have hal := all_cnt hs.ok
  refine new_ok hh fun k1 w1 h1 => nn_ok <| ldP_ok (RH.c1 h1.right) <| call_mono (ref_All2_ok (h1.perm (B := RH r a top Q S * (blk k1 #[.slice none 0 0, .slice none 0 0] 61 * F)) (by ac_rfl)) hs.ok) ?_
  rintro _ w2 ⟨p5, c5, rfl, h2⟩
  refine asS_ok ⟨fun p9 l9 c9 n w m => 0 ≤ n ∧ n ≤ (allFrom 0 S.sp).length ∧ m = (allFrom 0 S.sp).length - n.toNat ∧ l9 = (((allFrom 0 S.sp).take n.toNat).filter (iso S)).length ∧
      Sat w₀ (tab T_uint64 1 fU64 p9 l9 c9 (((allFrom 0 S.sp).take n.toNat).filter (iso S)) * (tab T_uint64 1 fU64 p5 (allFrom 0 S.sp).length c5 (allFrom 0 S.sp) * (RH r a top Q S * (blk k1 #[.slice none 0 0, .slice none 0 0] 61 * F)))) w,
    ⟨_, by decide, by omega, rfl, rfl, tab_nil _ _ _ h2⟩, ?_⟩
  clear h1 h2 hh
  rintro u pw lw cw n w3 m ⟨n0, nl, rfl, rfl, h3⟩
  refine br_dec (fun hlt => ?_) (fun hge => ?_)
  · have hi : n.toNat < (allFrom 0 S.sp).length := by omega
    obtain ⟨y, hy⟩ : ∃ y, (allFrom 0 S.sp)[n.toNat]? = some y := ⟨_, List.getElem?_eq_getElem hi⟩
    obtain ⟨o, hp⟩ := (pay_all hs.ok).2 (List.mem_of_getElem? hy)
    obtain ⟨wk, hwk⟩ : ∃ wk, wk = ((allFrom 0 S.sp).take n.toNat).filter (iso S) := ⟨_, rfl⟩
    have hwl : wk.length ≤ 256 := by
      have h1 := List.length_filter_le (iso S) ((allFrom 0 S.sp).take n.toNat)
      rw [← hwk, List.length_take] at h1
      omega
    have etk : ((allFrom 0 S.sp).take (n + 1).toNat).filter (iso S) = wk ++ [y].filter (iso S) := by
      rw [show (n + 1).toNat = n.toNat + 1 by omega, List.take_add_one, hy, List.filter_append, hwk]
      rfl
    rw [← hwk] at h3 ⊢
    refine tab_idx fU64_len h3.right.left (by decide) n0 hy fun g hg => ldI_ok (n := y) (by have := tab_cell fU64_len h3.right.left hg hy (j := 0) (by decide) rfl; rwa [Sp.add_zero] at this) <| call_mono (rh_Find_ok (h := y) h3.right.right hs.ok) ?_
    rintro _ w4 ⟨rfl, ⟨hp', rfl⟩ | ⟨k, o', hp', hk, rfl⟩⟩
    · rw [hp] at hp'; cases hp'
    rw [hp] at hp'
    cases hp'
    obtain ⟨k', L, R, hk', hat, _⟩ := RH.at h3.right.right hs.ok hp
    rw [hk] at hk'
    cases hk'
    have hiv : iso S y = (o.ou == 0) := by rw [iso, hp]
    refine asP_ok <| nn_ok <| ldI_ok (n := o.ou) (rob_cell hat (i := 1) rfl) <| br_split (fun he => ?_) (fun hne => ?_)
    · have ef : [y].filter (iso S) = [y] := by simp [hiv, he]
      refine tab_idx fU64_len h3.right.left (by decide) n0 hy fun g hg => ldI_ok (n := y) (by have := tab_cell fU64_len h3.right.left hg hy (j := 0) (by decide) rfl; rwa [Sp.add_zero] at this) <| new_ok h3 fun k20 w5 h4 => ?_
      refine tab_app u64sTy fU64_len (by decide) fU64_one (x := y) h4 rfl (by simp only [maxLen]; omega) (by omega) fun p' c' w6 h5 => arith_i64 (by omega) (by omega) ⟨_, ?_, by omega, by omega, rfl, ?_, ?_⟩
      · omega
      · rw [etk, ef]; simp
      · rw [etk, ef]; exact h5
    · have ef : [y].filter (iso S) = [] := by simp [hiv, hne]
      refine arith_i64 (by omega) (by omega) ⟨_, ?_, by omega, by omega, rfl, ?_, ?_⟩
      · omega
      · rw [etk, ef, List.append_nil]
      · rw [etk, ef, List.append_nil]; exact h3
  have ews : ((allFrom 0 S.sp).take n.toNat).filter (iso S) = whs S := by rw [List.take_of_length_le (by omega)]; rfl
  rw [ews] at h3 ⊢
  clear nl hge n0 ews
  obtain ⟨ws, hws⟩ : ∃ ws, ws = whs S := ⟨_, rfl⟩
  have hwl := whs_len hs.ok
  have hwn := whs_nodup hs.ok
  rw [← hws] at h3 hwl hwn ⊢
  refine new_ok h3 fun k26 w4 h4 => ?_
  have h5 : Sat w₀ (tab T_uint64 1 fU64 pw ws.length cw ws * (blk k26 #[.slice none 0 0, .slice none 0 0] 61 * (blk k1 #[.slice none 0 0, .slice none 0 0] 61 * (RH r a top Q S * F)))) w4 :=
    (h4.perm (B := tab T_uint64 1 fU64 p5 (allFrom 0 S.sp).length c5 (allFrom 0 S.sp) * (tab T_uint64 1 fU64 pw ws.length cw ws * (blk k26 #[.slice none 0 0, .slice none 0 0] 61 * (blk k1 #[.slice none 0 0, .slice none 0 0] 61 * (RH r a top Q S * F))))) (by ac_rfl)).right
  clear h3 h4
  refine ⟨fun n w m => ∃ cs rows pc cc pe ce, 0 ≤ n ∧ n ≤ ws.length ∧ m = ws.length - n.toNat ∧ rows.map (·.l) = (ws.take n.toNat).map (edgs S ws) ∧ cs = (ws.take n.toNat).map (cnO S) ∧
      Sat w₀ (tab T_uint64 1 fU64 pw ws.length cw ws * (blk k26 #[.slice pc cs.length cc, .slice pe rows.length ce] 61 * (GrH pc cc pe ce cs rows * (blk k1 #[.slice none 0 0, .slice none 0 0] 61 * (RH r a top Q S * F))))) w,
    ⟨_, [], [], none, 0, none, 0, by decide, by omega, rfl, rfl, rfl, (tab_nil 27 1 fU32 (tab_nil 43 1 esF h5.with_emp)).perm (by
      show tab 27 1 fU32 none 0 0 [] * (tab 43 1 esF none 0 0 [] * (emp * (tab T_uint64 1 fU64 pw ws.length cw ws * (blk k26 #[.slice none 0 0, .slice none 0 0] 61 * _)))) = tab T_uint64 1 fU64 pw ws.length cw ws * (blk k26 #[.slice none 0 0, .slice none 0 0] 61 * ((tab 27 1 fU32 none 0 0 [] * (tab 43 1 esF none 0 0 [] * emp)) * _))
      ac_rfl)⟩, ?_⟩
  clear h5
  rintro u n w5 m ⟨cs, rows, pc, cc, pe, ce, n0, nl, rfl, hrows, hcs, h6⟩
  have hrl : rows.length = n.toNat := by
    have := congrArg List.length hrows
    rw [List.length_map, List.length_map, List.length_take] at this
    omega
  have hcl : cs.length = n.toNat := by rw [hcs, List.length_map, List.length_take]; omega
  refine br_dec (fun hlt => ?_) (fun hge => ?_)
  case refine_2 =>
    have hn : n.toNat = ws.length := by omega
    rw [hn, List.take_length] at hrows hcs
    refine ldA_blk0 h6.right rfl <| stA_ok (h6.perm (B := blk k1 #[.slice none 0 0, .slice none 0 0] 61 * (tab T_uint64 1 fU64 pw ws.length cw ws * (blk k26 #[.slice pc cs.length cc, .slice pe rows.length ce] 61 * (GrH pc cc pe ce cs rows * (RH r a top Q S * F))))) (by ac_rfl)) rfl rfl (by simp [Value.oneCell']) fun w6 h7 => ?_
    have e1 : rows.length = (whs S).length := by rw [← hws, hrl, hn]
    have e2 : cs.length = (whs S).length := by rw [← hws, hcl, hn]
    refine ldA_blk0 h7 rfl ⟨pc, cc, pe, ce, pw, cw, rows, by rw [← hws]; exact hrows, by rw [e1, e2, hws], ?_⟩
    rw [hws] at hcs
    rw [← hcs, ← hws]
    exact (h7.perm (B := (blk k1 #[.slice pc cs.length cc, .slice pe rows.length ce] 61 * blk k26 #[.slice pc cs.length cc, .slice pe rows.length ce] 61) * (GrH pc cc pe ce cs rows * (tab T_uint64 1 fU64 pw ws.length cw ws * (RH r a top Q S * F)))) (by ac_rfl)).right
  have hi : n.toNat < ws.length := by omega
  obtain ⟨h, hh⟩ : ∃ h, ws[n.toNat]? = some h := ⟨_, List.getElem?_eq_getElem hi⟩
  obtain ⟨o, hp, ho0⟩ := whs_live hs.ok (hws ▸ List.mem_of_getElem? hh)
  have hro := hs.rng h o hp
  have hol := hro.len
  have hil := hs.innlen hp
  refine tab_idx fU64_len h6.left (by decide) n0 hh fun g hg => ldI_ok (n := h) (by have := tab_cell fU64_len h6.left hg hh (j := 0) (by decide) rfl; rwa [Sp.add_zero] at this) <| call_mono (rh_Find_ok (h := h) h6.right.right.right.right hs.ok) ?_
  rintro _ w6 ⟨rfl, ⟨hp', rfl⟩ | ⟨k, o', hp', hk, rfl⟩⟩
  · rw [hp] at hp'; cases hp'
  rw [hp] at hp'
  cases hp'
  obtain ⟨X, hX⟩ : ∃ X : HP, X = blk k26 #[.slice pc cs.length cc, .slice pe rows.length ce] 61 * (GrH pc cc pe ce cs rows * (blk k1 #[.slice none 0 0, .slice none 0 0] 61 * (RH r a top Q S * F))) := ⟨_, rfl⟩
  have toR : ∀ {w : World}, Sat w₀ X w → Sat w₀ (RH r a top Q S * F) w := fun h => by rw [hX] at h; exact h.right.right.right
  rw [← hX] at h6
  -- the whole's own cells, read
  have own : ∀ {w : World}, Sat w₀ X w → ∃ (L : Loc) (R : HP), Sat w₀ (robH ⟨h, k, o, L⟩ * R) w := fun hx => by
    obtain ⟨k', L, R, hk', hat, _⟩ := RH.at (toR hx) hs.ok hp
    rw [hk] at hk'
    cases hk'
    exact ⟨L, _, hat⟩
  obtain ⟨L, R, hat⟩ := own h6.right
  refine asP_ok <| nn_ok <| ldS_ok (rob_cell hat (i := 4) (v := .slice L.pl o.ln.length L.cl) rfl) <| tab_more (ys := []) (l := 0) (p := none) (c := 0) linksTy lnF_len lnF_one (tab_nil T_api_Link 2 lnF h6) ((rob_open hat).right.left.rd) (by simp only [maxLen]; omega) (by omega) fun p9 c9 w7 h7 => ?_
  rw [List.nil_append, Nat.zero_add] at h7
  rw [Nat.zero_add]
  clear hat
  refine ⟨fun p l c j w m => 0 ≤ j ∧ j ≤ o.inn.length ∧ m = o.inn.length - j.toNat ∧ l = (o.ln ++ (o.inn.take j.toNat).flatMap (lnOf S)).length ∧
      Sat w₀ (tab T_api_Link 2 lnF p l c (o.ln ++ (o.inn.take j.toNat).flatMap (lnOf S)) * (tab T_uint64 1 fU64 pw ws.length cw ws * X)) w, ⟨_, by decide, by omega, rfl, by simp, by
      have e0 : o.ln ++ (o.inn.take (0 : Int).toNat).flatMap (lnOf S) = o.ln := by simp
      rw [e0]
      exact h7⟩, ?_⟩
  clear h7
  rintro u p l c j w8 m ⟨j0, jl, rfl, rfl, h8⟩
  obtain ⟨L2, R2, hat2⟩ := own h8.right.right
  have hlen1 := lnOf_len hs.toHBase (o.inn.take j.toNat)
  have htl2 : (o.inn.take j.toNat).length = j.toNat := by rw [List.length_take]; omega
  refine nn_ok <| ldS_ok (rob_cell hat2 (i := 5) (v := .slice L2.pi o.inn.length L2.ci) rfl) <| br_dec (fun hjlt => ?_) (fun hjge => ?_)
  · have hij : j.toNat < o.inn.length := by omega
    obtain ⟨i, hii⟩ : ∃ i, o.inn[j.toNat]? = some i := ⟨_, List.getElem?_eq_getElem hij⟩
    obtain ⟨x, hx, _⟩ := hs.inn h o hp i (List.mem_of_getElem? hii)
    have hxr := (hs.rng i x hx).len
    have hinn : Sat w₀ (tab T_uint64 1 fU64 L2.pi o.inn.length L2.ci o.inn) w8 := (rob_open hat2).right.right.left
    refine nn_ok <| ldS_ok (rob_cell hat2 (i := 5) (v := .slice L2.pi o.inn.length L2.ci) rfl) <| tab_idx fU64_len hinn (by decide) j0 hii fun g hg => ldI_ok (n := i) (by have := tab_cell fU64_len hinn hg hii (j := 0) (by decide) rfl; rwa [Sp.add_zero] at this) <| call_mono (rh_Find_ok (h := i) (toR h8.right.right) hs.ok) ?_
    rintro _ w9 ⟨rfl, ⟨hp', rfl⟩ | ⟨k2, o', hp', hk2, rfl⟩⟩
    · rw [hx] at hp'; cases hp'
    rw [hx] at hp'
    cases hp'
    obtain ⟨k2', L3, R3, hk2', hat3, _⟩ := RH.at (toR h8.right.right) hs.ok hx
    rw [hk2] at hk2'
    cases hk2'
    refine asP_ok <| nn_ok <| ldS_ok (rob_cell hat3 (i := 4) (v := .slice L3.pl x.ln.length L3.cl) rfl) <| tab_more linksTy lnF_len lnF_one h8 ((rob_open hat3).right.left.rd) (by rw [List.length_append]; simp only [maxLen]; omega) (by rw [List.length_append]; omega) fun p11 c11 w10 h10 => ?_
    have eln : o.ln ++ (o.inn.take (j + 1).toNat).flatMap (lnOf S) = o.ln ++ (o.inn.take j.toNat).flatMap (lnOf S) ++ x.ln := by
      rw [show (j + 1).toNat = j.toNat + 1 by omega, List.take_add_one, hii, List.flatMap_append, List.append_assoc]
      simp [lnOf, hx]
    refine arith_i64 (by omega) (by omega) ⟨_, ?_, by omega, by omega, rfl, ?_, ?_⟩
    · omega
    · rw [eln, List.length_append (bs := x.ln)]
    · rw [eln]; exact h10
  -- its links
  have hpin : inOf S h = o.inn := by rw [inOf, hp]
  have elk : o.ln ++ (o.inn.take j.toNat).flatMap (lnOf S) = (h :: inOf S h).flatMap (lnOf S) := by
    rw [List.take_of_length_le (by omega), hpin, List.flatMap_cons, lnOf, hp]
  have hlk8 : (o.ln ++ (o.inn.take j.toNat).flatMap (lnOf S)).length ≤ 2500 := by rw [List.length_append]; omega
  rw [elk] at h8 hlk8 ⊢
  obtain ⟨lk, hlk⟩ : ∃ lk, lk = (h :: inOf S h).flatMap (lnOf S) := ⟨_, rfl⟩
  have hlko : ∀ x ∈ lk, LinkOk x := fun x hx => by
    rw [hlk] at hx
    obtain ⟨i, _, hx⟩ := List.mem_flatMap.1 hx
    unfold lnOf at hx
    split at hx
    · rename_i y hy; exact (hs.rng i y hy).ln x hx
    · cases hx
  have hed : edgs S ws h = lk.filterMap (edge S ws) := by rw [edgs, hlk]
  rw [← hlk] at h8 hlk8 ⊢
  clear elk hlen1 htl2 jl hjge j0 hat2
  have hesl : ∀ i : Nat, ((lk.take i).filterMap (edge S ws)).length ≤ 2500 := fun i => by
    have h1 := List.length_filterMap_le (edge S ws) (lk.take i)
    rw [List.length_take] at h1
    omega
  refine ⟨fun p61 l61 c61 i w m => 0 ≤ i ∧ i ≤ lk.length ∧ m = lk.length - i.toNat ∧ l61 = ((lk.take i.toNat).filterMap (edge S ws)).length ∧
      Sat w₀ (tab T_int 1 fI p61 l61 c61 ((lk.take i.toNat).filterMap (edge S ws)) * (tab T_api_Link 2 lnF p lk.length c lk * (tab T_uint64 1 fU64 pw ws.length cw ws * X))) w, ⟨_, by decide, by omega, rfl, rfl, tab_nil _ _ _ h8⟩, ?_⟩
  clear h8
  rintro u p61 l61 c61 i w9 m ⟨i0, il, rfl, rfl, h9⟩
  obtain ⟨es, hes⟩ : ∃ es, es = (lk.take i.toNat).filterMap (edge S ws) := ⟨_, rfl⟩
  have hesn := hesl i.toNat
  rw [← hes] at h9 hesn ⊢
  refine br_dec (fun hilt => ?_) (fun hige => ?_)
  · have hii : i.toNat < lk.length := by omega
    obtain ⟨x, hx⟩ : ∃ x, lk[i.toNat]? = some x := ⟨_, List.getElem?_eq_getElem hii⟩
    have hxo := hlko x (List.mem_of_getElem? hx)
    have etk : (lk.take (i + 1).toNat).filterMap (edge S ws) = es ++ (match edge S ws x with | some n => [n] | none => []) := by
      rw [hes, show (i + 1).toNat = i.toNat + 1 by omega, List.take_add_one, hx, Option.toList_some, List.filterMap_append]
      congr 1
      cases he : edge S ws x <;> simp [he]
    have hlt : Sat w₀ (tab T_api_Link 2 lnF p lk.length c lk) w9 := h9.right.left
    have c0 : ∀ {w : World} {g : Nat}, Sat w₀ (tab T_api_Link 2 lnF p lk.length c lk) w → p = some ⟨g, 0, none⟩ → w.cell? ((⟨g, i.toNat * 2, none⟩ : Addr).add 0) = some (.int .i64 x.1) := fun h hg => tab_cell lnF_len h hg hx (j := 0) (by decide) rfl
    have c1 : ∀ {w : World} {g : Nat}, Sat w₀ (tab T_api_Link 2 lnF p lk.length c lk) w → p = some ⟨g, 0, none⟩ → w.cell? ((⟨g, i.toNat * 2, none⟩ : Addr).add 1) = some (.int .u64 x.2) := fun h hg => tab_cell lnF_len h hg hx (j := 1) (by decide) rfl
    have skip : edge S ws x = none → arith .i64 (i + 1) fun n66 => ∃ m67, m67 < lk.length - i.toNat ∧ 0 ≤ n66 ∧ n66 ≤ (lk.length : Int) ∧ m67 = lk.length - n66.toNat ∧ es.length = ((lk.take n66.toNat).filterMap (edge S ws)).length ∧ Sat w₀ (tab T_int 1 fI p61 es.length c61 ((lk.take n66.toNat).filterMap (edge S ws)) * (tab T_api_Link 2 lnF p lk.length c lk * (tab T_uint64 1 fU64 pw ws.length cw ws * X))) w9 := fun he => by
      rw [he] at etk
      dsimp only at etk
      rw [List.append_nil] at etk
      exact arith_i64 (by omega) (by omega) ⟨_, by omega, by omega, by omega, rfl, by rw [etk], by rw [etk]; exact h9⟩
    refine tab_idx lnF_len hlt (by decide) i0 hx fun g hg => ldI_ok (c0 hlt hg) <| br_split (fun hne => skip ?_) (fun he => ?_)
    · have hne : x.1 ≠ 1 := by simpa using hne
      rw [edge, if_neg hne]
    have he : x.1 = 1 := by simpa using he
    refine tab_idx lnF_len hlt (by decide) i0 hx fun g hg => ldI_ok (c1 hlt hg) <| call_mono (rh_Whole_ok (h := x.2) (toR h9.right.right.right) hs) ?_
    rintro _ w10 ⟨rfl, ⟨hw, rfl⟩ | ⟨z, kz, oz, hw, hpz, hkz, rfl⟩⟩
    · refine asP_ok <| br_true rfl <| skip ?_
      rw [edge, if_pos he, hw]
      rfl
    clear skip
    have hzm : z ∈ ws := hws ▸ whole_whs hs hw
    have hed2 : edge S ws x = some (ws.idxOf z : Int) := by rw [edge, if_pos he, hw]; rfl
    have hzl := List.idxOf_lt_length_of_mem hzm
    rw [hed2] at etk
    dsimp only at etk
    refine asP_ok <| br_false rfl ⟨fun p77 l77 c77 j w m => ∃ es', 0 ≤ j ∧ j ≤ ws.length ∧ m = ws.length - j.toNat ∧ l77 = es'.length ∧ es' = es ++ (if ws.idxOf z < j.toNat then [(ws.idxOf z : Int)] else []) ∧
        Sat w₀ (tab T_int 1 fI p77 l77 c77 es' * (tab T_api_Link 2 lnF p lk.length c lk * (tab T_uint64 1 fU64 pw ws.length cw ws * X))) w, ⟨_, es, by decide, by omega, rfl, rfl, by simp, h9⟩, ?_⟩
    clear h9 hlt
    rintro u p77 l77 c77 j w11 m ⟨es', j0, jl, rfl, rfl, hes', h10⟩
    refine br_dec (fun hjlt => ?_) (fun hjge => ?_)
    · have hj : j.toNat < ws.length := by omega
      obtain ⟨y, hy⟩ : ∃ y, ws[j.toNat]? = some y := ⟨_, List.getElem?_eq_getElem hj⟩
      have hyi : ws.idxOf y = j.toNat := by
        have := hwn.idxOf_getElem j.toNat hj
        rw [List.getElem?_eq_getElem hj] at hy
        rw [Option.some.inj hy] at this
        exact this
      have hes'l : es'.length ≤ 2501 := by
        rw [hes', List.length_append]
        split <;> simp <;> omega
      have h10 := h10.drew
      have hlt : Sat w₀ (tab T_api_Link 2 lnF p lk.length c lk) w11.drew := h10.right.left
      have hwt : Sat w₀ (tab T_uint64 1 fU64 pw ws.length cw ws) w11.drew := h10.right.right.left
      refine tab_idx fU64_len hwt (by decide) j0 hy fun gw hgw => ?_
      have cy : w11.drew.cell? (⟨gw, j.toNat * 1, none⟩ : Addr) = some (.int .u64 y) := by have := tab_cell fU64_len hwt hgw hy (j := 0) (by decide) rfl; rwa [Sp.add_zero] at this
      refine ldI_ok cy <| tab_idx lnF_len hlt (by decide) i0 hx fun g hg => ldI_ok (c1 hlt hg) <| call_mono (rh_Whole_ok (h := x.2) (toR h10.right.right.right) hs) ?_
      rintro _ w12 ⟨rfl, ⟨hw', rfl⟩ | ⟨z', kz', oz', hw', hpz', hkz', rfl⟩⟩
      · rw [hw] at hw'; cases hw'
      rw [hw] at hw'
      cases hw'
      obtain ⟨kz2, Lz, Rz, hkz2, hatz, _⟩ := RH.at (toR h10.right.right.right) hs.ok hpz'
      rw [hkz'] at hkz2
      cases hkz2
      refine asP_ok ⟨cy, nn_ok <| ldI_ok (n := z) (rob_cell hatz (i := 0) rfl) <| br_split (fun he2 => ?_) (fun hne2 => ?_)⟩
      · have he2 : y = z := by simpa using he2
        subst he2
        refine new_ok h10 fun k88 w13 h11 => tab_app intsTy fI_len (by decide) fI_one (x := j) h11 rfl (by simp only [maxLen]; omega) (by omega) fun p' c' w14 h12 => arith_i64 (by omega) (by omega) ⟨_, ?_, es' ++ [j], by omega, by omega, rfl, by simp, ?_, h12⟩
        · omega
        · rw [hes', hyi, if_neg (by omega), if_pos (by omega), List.append_nil]
          congr 2
          omega
      · have hne2 : y ≠ z := by simpa using hne2
        have hzj : ws.idxOf z ≠ j.toNat := fun e => by
          have h1 := List.getElem_idxOf hzl
          simp only [e] at h1
          rw [List.getElem?_eq_getElem hj, h1] at hy
          exact hne2 (Option.some.inj hy).symm
        refine arith_i64 (by omega) (by omega) ⟨_, ?_, es', by omega, by omega, rfl, rfl, ?_, h10⟩
        · omega
        · rw [hes']
          congr 1
          by_cases q : ws.idxOf z < j.toNat
          · rw [if_pos q, if_pos (by omega)]
          · rw [if_neg q, if_neg (by omega)]
    · rw [if_pos (by omega)] at hes'
      refine arith_i64 (by omega) (by omega) ⟨_, ?_, by omega, by omega, rfl, ?_, ?_⟩
      · omega
      · rw [etk, hes']
      · rw [etk, ← hes']; exact h10
  -- told
  · have ee : (lk.take i.toNat).filterMap (edge S ws) = edgs S ws h := by rw [List.take_of_length_le (by omega), hed]
    rw [ee] at hes
    have h9 := h9.drew
    obtain ⟨L3, R3, hat3⟩ := own h9.right.right.right
    have hcnr := hro.cn
    rw [hX] at h9
    refine ldS_ok (cell_blk h9.right.right.right (i := 0) rfl) <| nn_ok <| ldI_ok (n := o.cn) (rob_cell hat3 (i := 2) rfl) <| new_ok h9 fun k99 w16 h20 => ?_
    refine tab_app u32sTy fU32_len (by decide) fU32_one (x := o.cn) (h20.perm (B := blk k99 #[.int .u32 o.cn] 27 * (tab 27 1 fU32 pc cs.length cc cs * (blk k26 #[.slice pc cs.length cc, .slice pe rows.length ce] 61 * (tab T_int 1 fI p61 es.length c61 es * (tab T_api_Link 2 lnF p lk.length c lk * (tab T_uint64 1 fU64 pw ws.length cw ws * ((tab 43 1 esF pe rows.length ce rows * ersH rows) * (blk k1 #[.slice none 0 0, .slice none 0 0] 61 * (RH r a top Q S * F))))))))) (by
      rw [GrH]
      ac_rfl)) rfl (by simp only [maxLen]; omega) (by omega) fun p82 c82 w17 h21 => ?_
    refine st_ok (i := 0) (h21.perm (B := blk k26 #[.slice pc cs.length cc, .slice pe rows.length ce] 61 * (tab 27 1 fU32 p82 (cs.length + 1) c82 (cs ++ [o.cn]) * (tab T_int 1 fI p61 es.length c61 es * (tab T_api_Link 2 lnF p lk.length c lk * (tab T_uint64 1 fU64 pw ws.length cw ws * ((tab 43 1 esF pe rows.length ce rows * ersH rows) * (blk k1 #[.slice none 0 0, .slice none 0 0] 61 * (RH r a top Q S * F)))))))) (by ac_rfl)) (by simp) fun w18 h22 => ?_
    have h22 : Sat w₀ (blk k26 #[.slice p82 (cs.length + 1) c82, .slice pe rows.length ce] 61 * (tab 27 1 fU32 p82 (cs.length + 1) c82 (cs ++ [o.cn]) * (tab T_int 1 fI p61 es.length c61 es * (tab T_api_Link 2 lnF p lk.length c lk * (tab T_uint64 1 fU64 pw ws.length cw ws * ((tab 43 1 esF pe rows.length ce rows * ersH rows) * (blk k1 #[.slice none 0 0, .slice none 0 0] 61 * (RH r a top Q S * F)))))))) w18 := h22
    refine ldS_ok (cell_blk h22 (i := 1) rfl) <| new_ok h22 fun k102 w19 h23 => ?_
    refine tab_app slsTy esF_len (by decide) esF_one (x := (⟨p61, c61, es⟩ : ERow)) (h23.perm (B := blk k102 #[.slice p61 es.length c61] 43 * (tab 43 1 esF pe rows.length ce rows * (blk k26 #[.slice p82 (cs.length + 1) c82, .slice pe rows.length ce] 61 * (tab 27 1 fU32 p82 (cs.length + 1) c82 (cs ++ [o.cn]) * (tab T_int 1 fI p61 es.length c61 es * (tab T_api_Link 2 lnF p lk.length c lk * (tab T_uint64 1 fU64 pw ws.length cw ws * (ersH rows * (blk k1 #[.slice none 0 0, .slice none 0 0] 61 * (RH r a top Q S * F)))))))))) (by ac_rfl)) rfl (by simp only [maxLen]; omega) (by omega) fun p86 c86 w20 h24 => ?_
    refine st_ok (i := 1) (h24.perm (B := blk k26 #[.slice p82 (cs.length + 1) c82, .slice pe rows.length ce] 61 * (tab 43 1 esF p86 (rows.length + 1) c86 (rows ++ [⟨p61, c61, es⟩]) * (tab 27 1 fU32 p82 (cs.length + 1) c82 (cs ++ [o.cn]) * (tab T_int 1 fI p61 es.length c61 es * (tab T_api_Link 2 lnF p lk.length c lk * (tab T_uint64 1 fU64 pw ws.length cw ws * (ersH rows * (blk k1 #[.slice none 0 0, .slice none 0 0] 61 * (RH r a top Q S * F))))))))) (by ac_rfl)) (by simp) fun w21 h25 => ?_
    have h25 : Sat w₀ (blk k26 #[.slice p82 (cs.length + 1) c82, .slice p86 (rows.length + 1) c86] 61 * (tab 43 1 esF p86 (rows.length + 1) c86 (rows ++ [⟨p61, c61, es⟩]) * (tab 27 1 fU32 p82 (cs.length + 1) c82 (cs ++ [o.cn]) * (tab T_int 1 fI p61 es.length c61 es * (tab T_api_Link 2 lnF p lk.length c lk * (tab T_uint64 1 fU64 pw ws.length cw ws * (ersH rows * (blk k1 #[.slice none 0 0, .slice none 0 0] 61 * (RH r a top Q S * F))))))))) w21 := h25
    have etk : ws.take (n + 1).toNat = ws.take n.toNat ++ [h] := by rw [show (n + 1).toNat = n.toNat + 1 by omega, List.take_add_one, hh]; rfl
    refine arith_i64 (by omega) (by omega) ⟨_, ?_, cs ++ [o.cn], rows ++ [⟨p61, c61, es⟩], p82, c82, p86, c86, by omega, by omega, rfl, ?_, ?_, ?_⟩
    · omega
    · rw [etk, List.map_append, List.map_append, hrows, hes]
      rfl
    · rw [etk, List.map_append, hcs]
      simp [cnO, hp]
    · have e1 : (cs ++ [o.cn]).length = cs.length + 1 := by simp
      have e2 : (rows ++ [(⟨p61, c61, es⟩ : ERow)]).length = rows.length + 1 := by simp
      rw [GrH, e1, e2, ersH_snoc, esH]
      dsimp only
      have h26 := (h25.perm (B := tab T_api_Link 2 lnF p lk.length c lk * (tab T_uint64 1 fU64 pw ws.length cw ws * (blk k26 #[.slice p82 (cs.length + 1) c82, .slice p86 (rows.length + 1) c86] 61 * (tab 27 1 fU32 p82 (cs.length + 1) c82 (cs ++ [o.cn]) * (tab 43 1 esF p86 (rows.length + 1) c86 (rows ++ [⟨p61, c61, es⟩]) * (tab T_int 1 fI p61 es.length c61 es * (ersH rows * (blk k1 #[.slice none 0 0, .slice none 0 0] 61 * (RH r a top Q S * F))))))))) (by ac_rfl)).right
      exact h26.perm (by ac_rfl)
end
end Go.Proofs.Ytgchemgnmijpdaa
