/- WeakTrue, WeakEnds: the walks. No conditions. -/
import Derived.Test.YtiogdefiokmmkaaWK7
set_option linter.unusedVariables false
set_option linter.unusedSimpArgs false
set_option maxRecDepth 100000
namespace Go.Proofs.Ytiogdefiokmmkaa
open Go.Sp Go.RowKit

theorem WeakTrue_walk {W : World} {p : Option Addr} {l c : Nat} {xs : List WAct} {target late : Int} (hx : Acts W p l xs) (hl : l ≤ 9223372036854775807) (ht : 0 ≤ target ∧ target ≤ 18446744073709551615) (hla : -9223372036854775808 ≤ late ∧ late ≤ 9223372036854775807) :
    call Try.prog fn_tenonlaw12_WeakTrue #[.slice p l c, .int .u64 target, .int .i64 late] W fun v w' => v = .bool true ∧ Below W.heap.size W w' := by
  apply tenonlaw12_WeakTrue_call
  unfold tenonlaw12_WeakTrue
  refine call_mono (weak_New_ok (most := 300) (Sat.start W) (by omega) (by omega)) ?_
  rintro _ w1 ⟨b, a, r, rfl, h1⟩
  obtain ⟨k0, f0, g0, _⟩ := WT.open_ h1
  refine ⟨_, _, rfl, call_mono (weak_Of_ok (t := target) h1 (by omega) (by omega) ht.1 ht.2) ?_⟩
  rintro _ w2 ⟨s1, H, e, rfl, hO, h2⟩
  have he : e = 0 := by
    cases hO with
    | old p _ _ => rfl
    | new k hn => exact put_room k0.ok _ (by show ((0 : Nat) : Int) < 300; omega)
  obtain ⟨b1, hb1, ht1, hd1⟩ := hO.bl k0 he
  have hH := hb1.range (WT.open_ h2).1.ok
  refine ⟨_, _, rfl, br_false rfl <| br_false (by simp [he]) ⟨fun b i w n => ∃ s : WS, 0 ≤ i ∧ i ≤ 100 ∧ n = 100 - i.toNat ∧ (∃ bb, Bl s H bb ∧ bb.tg = target ∧ bb.dead = b) ∧ Sat W (WT _ a r (2 + i) s * old W) w, ⟨_, _, by omega, by omega, rfl, ⟨b1, hb1, ht1, hd1⟩, h2⟩, ?_⟩⟩
  rintro u dead i w3 n ⟨s, h0, hi, rfl, hbl, h3⟩
  have hdone : call Try.prog 10 #[] w3 fun v w' => asB v fun b => (Value.bool b) = .bool true ∧ Below W.heap.size W w' := awake_done h3
  refine br_dec (fun hlt => br_dec (fun hlt2 => ?_) (fun _ => hdone)) (fun _ => hdone)
  clear hdone
  refine ⟨fun d w => ∃ s : WS, (∃ bb, Bl s H bb ∧ bb.tg = target ∧ bb.dead = d) ∧ Sat W (WT b a r (2 + i) s * old W) w, ?_, ?_⟩
  · obtain ⟨k, hpk, _⟩ := tenonref01_Pick_ok late 100 hla.1 hla.2 (by omega) (by omega)
    refine call_pure hpk <| asI_ok <| br_split (fun _ => ?_) (fun _ => ⟨s, hbl, h3⟩)
    obtain ⟨ok, f, hf, _⟩ := WT.open_ h3
    obtain ⟨bb, hb, hbt, hbd⟩ := hbl
    refine call_mono (weak_Die_ok (t := target) h3) ?_
    rintro _ w5 ⟨s', d, rfl, hD, h5⟩
    obtain ⟨b', hb', e1, e2⟩ := hD.keeps hf ok hb
    have hdt : b'.dead = true := by rw [e2, hbt]; simp
    refine asB_ok <| br_split (fun _ => ⟨s', ⟨b', hb', e1.trans hbt, hdt⟩, h5⟩) (fun hd => ⟨s', ⟨b', hb', e1.trans hbt, ?_⟩, h5⟩)
    rw [hdt]
    cases hD with
    | yes => cases hd
    | no hn =>
      cases hde : dead with
      | true => rfl
      | false => exact (hn _ _ hb hbt (hbd.trans hde)).elim
  rintro u d1 w6 ⟨s1, ⟨b1, hb1, ht1, hd1⟩, h6⟩
  obtain ⟨ok, f, hf, _⟩ := WT.open_ h6
  refine hx.idx h6.right h0 hlt fun a0 x hxa ha => ha.ld <| new_ok h6 fun k22 w7 h7 => stA_ok h7 rfl rfl (acL_one x) fun w8 h8 => ?_
  have h9 : Sat W (WT b a r (2 + i) s1 * (blk k22 (acL x).toArray 37 * old W)) w8 := h8.perm (by
    show blk k22 (acL x).toArray 37 * _ = _
    ac_rfl)
  have cx : ∀ (i : Nat) {v : Value}, (acL x).toArray[i]? = some v → w8.cell? ((⟨k22, 0, none⟩ : Addr).add i) = some v := fun i _ e => cell_blk h8 e
  have ln : ∀ {w : World} {s : WS} {N : Int}, Sat W (WT b a r N s * (blk k22 (acL x).toArray 37 * old W)) w → N ≤ 2 + (i + 1) → Sat W (WT b a r (2 + (i + 1)) s * old W) w := fun h hN => WT.mono hN (h.perm (B := blk k22 (acL x).toArray 37 * (WT b a r _ _ * old W)) (by ac_rfl)).right
  refine ⟨fun d w => ∃ s : WS, (∃ bb, Bl s H bb ∧ bb.tg = target ∧ bb.dead = d) ∧ Sat W (WT b a r (2 + (i + 1)) s * old W) w, ?_, ?_⟩
  · obtain ⟨k, hpk, _⟩ := tenonref01_Pick_ok x.kind 3 ha.kind.1 ha.kind.2 (by omega) (by omega)
    refine ldI_ok (cx 0 rfl) <| call_pure hpk <| asI_ok <| br_split (fun _ => ?_) (fun _ => br_split (fun _ => ?_) (fun _ => ?_))
    · refine ldI_ok (cx 2 rfl) <| call_mono (weak_Of_ok (t := x.tg) h9 (by omega) (by omega) ha.tg.1 ha.tg.2) ?_
      rintro _ w10 ⟨s', h, e, rfl, hO, h10⟩
      obtain ⟨b', hb', e1, e2⟩ := hO.keeps ok hb1
      exact ⟨_, _, rfl, s', ⟨b', hb', e1.trans ht1, e2.trans hd1⟩, ln h10 (by omega)⟩
    · refine ldI_ok (cx 2 rfl) <| call_mono (weak_Die_ok (t := x.tg) h9) ?_
      rintro _ w10 ⟨s', d, rfl, hD, h10⟩
      obtain ⟨b', hb', e1, e2⟩ := hD.keeps hf ok hb1
      have cx2 : w10.cell? ((⟨k22, 0, none⟩ : Addr).add 2) = some (.int .u64 x.tg) := cell_blk h10.right rfl
      refine asB_ok <| br_split (fun h => ⟨s', ⟨b', hb', e1.trans ht1, by rw [e2, hd1, h]; rfl⟩, ln h10 (by omega)⟩) (fun h => ldI_ok cx2 ⟨s', ⟨b', hb', e1.trans ht1, ?_⟩, ln h10 (by omega)⟩)
      have e3 : b'.dead = (false || decide (target = x.tg)) := by rw [e2, hd1, h, ht1]
      rw [e3]
      by_cases e : x.tg = target
      · simp [e]
      · have e' : ¬ target = x.tg := fun h => e h.symm
        simp [e, e']
    · refine ldI_ok (cx 3 rfl) <| br_split (fun hne => ldI_ok (cx 3 rfl) <| call_mono (weak_Down_ok (h := x.raw) h9 (by omega) ha.raw.1 ha.raw.2) ?_) (fun _ => ⟨s1, ⟨b1, hb1, ht1, hd1⟩, ln h9 (by omega)⟩)
      have hne : H ≠ x.raw := by
        have : ¬ x.raw = H := by simpa using hne
        exact fun e => this e.symm
      rintro _ w10 ⟨s', m, e, rfl, hD, h10⟩
      exact ⟨_, _, rfl, s', ⟨b1, hD.keeps ok hb1 hne, ht1, hd1⟩, ln h10 (by omega)⟩
  rintro u d2 w13 ⟨s2, ⟨b2, hb2, ht2, hd2⟩, h13⟩
  have ok2 := (WT.open_ h13).1
  refine call_mono (weak_Lock_ok (h := H) h13 (by omega) (by omega)) ?_
  rintro _ w14 ⟨rfl, t, e, rfl, hL⟩
  have next : ∃ m, m < 100 - i.toNat ∧ ∃ s : WS, 0 ≤ i + 1 ∧ i + 1 ≤ 100 ∧ m = 100 - (i + 1).toNat ∧ (∃ bb, Bl s H bb ∧ bb.tg = target ∧ bb.dead = d2) ∧ Sat W (WT b a r (2 + (i + 1)) s * old W) w14 := ⟨_, by omega, s2, by omega, by omega, rfl, ⟨b2, hb2, ht2, hd2⟩, h13⟩
  cases hL with
  | no hn => exact (hn _ hb2).elim
  | dead hb hd =>
    obtain rfl := Bl.one ok2.ok hb hb2
    obtain rfl : true = d2 := hd.symm.trans hd2
    exact ⟨_, _, rfl, br_true rfl <| br_false rfl <| br_false rfl <| br_false rfl <| arith_i64 (by omega) (by omega) next⟩
  | live hb hd =>
    obtain rfl := Bl.one ok2.ok hb hb2
    obtain rfl : false = d2 := hd.symm.trans hd2
    exact ⟨_, _, rfl, br_false rfl <| br_true rfl <| br_false rfl <| br_false (by simp [ht2]) <| arith_i64 (by omega) (by omega) next⟩
theorem WeakTrue_row {W : World} {v : Value} {target late : Int} (h : ∃ p l c xs, v = .slice p l c ∧ l ≤ 9223372036854775807 ∧ Acts W p l xs) (ht : IntKind.u64.min ≤ target ∧ target ≤ IntKind.u64.max) (hs : IntKind.i64.min ≤ late ∧ late ≤ IntKind.i64.max) :
    call Try.prog fn_tenonlaw12_WeakTrue #[v, .int .u64 target, .int .i64 late] W fun v w' => v = .bool true ∧ Below W.heap.size W w' := by
  simp [IntKind.min, IntKind.max, IntKind.signed, IntKind.bits] at hs ht
  obtain ⟨p, l, c, xs, rfl, hl, hx⟩ := h
  exact WeakTrue_walk hx hl ht hs

/-! ### WeakEnds -/
structure Cnt (s : WS) (gs : List Int) : Prop where
  cn : ∀ h b, Bl s h b → b.cn = gs.count h
  all : ∀ h ∈ gs, ∃ b, Bl s h b
theorem count_snoc (gs : List Int) (h h' : Int) : (gs ++ [h]).count h' = gs.count h' + if h = h' then 1 else 0 := by
  rw [List.count_append, List.count_singleton]
  by_cases e : h = h' <;> simp [e]
theorem Cnt.of {N : Int} {s s' : WS} {gs : List Int} {t h e : Int} (hs : WOk N s) (hc : Cnt s gs) (hO : OfR s t s' h e) (he : e = 0) : Cnt s' (gs ++ [h]) := by
  cases hO with
  | old p e1 e2 =>
    refine ⟨fun h' b hb => ?_, fun h' hm => ?_⟩
    · rw [count_snoc]
      rcases (bl_setX hs p).1 hb with ⟨rfl, rfl⟩ | ⟨hb, hne⟩
      · have := hc.cn _ _ p.bl
        simp [this]
      · have := hc.cn _ _ hb
        rw [if_neg (fun e => hne e.symm)]
        exact this
    · by_cases e : h' = h
      · subst e
        exact ⟨_, (bl_setX hs p).2 (.inl ⟨rfl, rfl⟩)⟩
      · rcases List.mem_append.1 hm with hm | hm
        · obtain ⟨b, hb⟩ := hc.all _ hm
          exact ⟨b, (bl_setX hs p).2 (.inr ⟨hb, e⟩)⟩
        · simp at hm; exact absurd hm e
  | new k hn =>
    have fr : ∀ c, ¬ Bl s (put s (some (k, ⟨t, false, 1⟩))).2.1 c := fun c => bl_fresh hs.ok he
    refine ⟨fun h' b hb => ?_, fun h' hm => ?_⟩
    · rw [count_snoc]
      rcases (bl_put hs.ok he).1 hb with hb | ⟨rfl, rfl⟩
      · rw [if_neg]
        · exact hc.cn _ _ hb
        · rintro rfl
          exact fr _ hb
      · have : gs.count (put s (some (k, ⟨t, false, 1⟩))).2.1 = 0 := by
          rw [List.count_eq_zero]
          intro hm
          obtain ⟨b, hb⟩ := hc.all _ hm
          exact fr _ hb
        rw [this]
        simp
    · rcases List.mem_append.1 hm with hm | hm
      · obtain ⟨b, hb⟩ := hc.all _ hm
        exact ⟨b, (bl_put hs.ok he).2 (.inl hb)⟩
      · simp at hm
        exact ⟨_, (bl_put hs.ok he).2 (.inr ⟨hm, rfl⟩)⟩
theorem Cnt.die {N : Int} {s s' : WS} {gs : List Int} {t : Int} {d : Bool} (hs : WOk N s) (hc : Cnt s gs) (hD : DieR s t s' d) : Cnt s' gs := by
  cases hD with
  | no => exact hc
  | @yes h i y k b p e1 e2 =>
    refine ⟨fun h' b' hb => ?_, fun h' hm => ?_⟩
    · rcases (bl_setX hs p).1 hb with ⟨rfl, rfl⟩ | ⟨hb, hne⟩
      · show b.cn = _
        exact hc.cn _ _ p.bl
      · exact hc.cn _ _ hb
    · by_cases e : h' = h
      · subst e
        exact ⟨_, (bl_setX hs p).2 (.inl ⟨rfl, rfl⟩)⟩
      · obtain ⟨b, hb⟩ := hc.all _ hm
        exact ⟨b, (bl_setX hs p).2 (.inr ⟨hb, e⟩)⟩
theorem Cnt.down {N : Int} {s s' : WS} {gs : List Int} {h n e : Int} (hs : WOk N s) (hc : Cnt s (h :: gs)) (hD : DownR s h s' n e) : e = 0 ∧ Cnt s' gs := by
  obtain ⟨b0, hb0⟩ := hc.all h (.head _)
  cases hD with
  | no hn => exact (hn _ hb0).elim
  | last p e1 =>
    have h1 := hc.cn _ _ p.bl
    rw [List.count_cons_self, e1] at h1
    have h2 : gs.count h = 0 := by omega
    rw [List.count_eq_zero] at h2
    refine ⟨rfl, fun h' b' hb => ?_, fun h' hm => ?_⟩
    · obtain ⟨hb, hne⟩ := (bl_drop hs p).1 hb
      rw [hc.cn _ _ hb, List.count_cons_of_ne (fun e => hne e.symm)]
    · obtain ⟨b, hb⟩ := hc.all _ (.tail _ hm)
      exact ⟨b, (bl_drop hs p).2 ⟨hb, fun e => h2 (e ▸ hm)⟩⟩
  | more p e1 =>
    have h1 := hc.cn _ _ p.bl
    rw [List.count_cons_self] at h1
    refine ⟨rfl, fun h' b' hb => ?_, fun h' hm => ?_⟩
    · rcases (bl_setX hs p).1 hb with ⟨rfl, rfl⟩ | ⟨hb, hne⟩
      · dsimp only
        omega
      · rw [hc.cn _ _ hb, List.count_cons_of_ne (fun e => hne e.symm)]
    · by_cases e : h' = h
      · subst e
        exact ⟨_, (bl_setX hs p).2 (.inl ⟨rfl, rfl⟩)⟩
      · obtain ⟨b, hb⟩ := hc.all _ (.tail _ hm)
        exact ⟨b, (bl_setX hs p).2 (.inr ⟨hb, e⟩)⟩
theorem Cnt.nil_ {N : Int} {s : WS} (hs : WOk N s) (hc : Cnt s []) : pairsW s = [] := by
  unfold pairsW
  rw [List.map_eq_nil_iff]
  cases hl : liveFrom 0 s.sp with
  | nil => rfl
  | cons y ys =>
    exfalso
    obtain ⟨hyg, hy1⟩ := live_get y (by rw [hl]; exact .head _)
    obtain ⟨ky, bb, hyx, _⟩ := hs.pay y.2 (List.mem_of_getElem? hyg) hy1
    have q : Spt s (hd y.1 y.2.g) y.1 y.2 ky bb := ⟨hyg, hy1, rfl, hyx⟩
    have h1 := hc.cn _ _ q.bl
    have h2 := hs.rng q
    simp at h1
    omega
theorem rd_num {w : World} {p : Option Addr} {l : Nat} {α : Type} {zs : List α} {f : α → Value} {i : Int} {K : Addr → Prop} (h : Rd w 1 p l (zs.map f)) (h0 : 0 ≤ i) (h1 : i < (l : Int))
    (hk : ∀ a z, zs[i.toNat]? = some z → w.cell? a = some (f z) → K a) : idx p l i 1 K := by
  have hl := h.1
  rw [List.length_map] at hl
  have hlt : i.toNat < zs.length := by omega
  refine idx_ok h h0 h1 fun a e => hk _ zs[i.toNat] (by simp [hlt]) ?_
  rw [Nat.mul_one]
  exact h.get e (by simp [hlt])
section
open Go.ChangeShapes Go.WideShapes Go.Deep
variable {H : Type} {enc : TypeId × Value → H} {W : World} {base : Nat}
theorem open_Longs {v : Value} {d : DataW H} {ps : List MemPlace} (hv : Value.okWide Try.prog W .any base T_sl_uint64 v) (h : DataW.Trod enc Try.prog W 0 (fun _ => true) true T_sl_uint64 v d ps) :
    ∃ (p : Option Addr) (l c : Nat) (zs : List Int), v = .slice p l c ∧ l ≤ 9223372036854775807 ∧ Rd W 1 p l (zs.map fun n => .int .u64 n) ∧ ∀ n ∈ zs, 0 ≤ n ∧ n ≤ 18446744073709551615 := by
  obtain ⟨p0, l0, c0, rfl⟩ := okWide_slice Try.underlying31 hv
  obtain ⟨fuel, h⟩ := h
  have hf : Try.prog.info? T_uint64 = some (Try.prog.types[T_uint64]'(of_decide_eq_true (by kernel_rfl))) := by kernel_rfl
  obtain ⟨p, l, c, zs, e, hlc, hc, hrd, hrg⟩ := open_nums Try.underlying31 hf (by kernel_rfl) Try.underlying35 h
  cases e
  exact ⟨p0, l0, c0, zs, rfl, by simp only [maxLen] at hc; omega, hrd, fun n hn => by have := hrg n hn; simpa [IntKind.min, IntKind.max, IntKind.signed, IntKind.bits] using this⟩
theorem open_Bools {v : Value} {d : DataW H} {ps : List MemPlace} (hv : Value.okWide Try.prog W .any base T_sl_bool v) (h : DataW.Trod enc Try.prog W 0 (fun _ => true) true T_sl_bool v d ps) :
    ∃ (p : Option Addr) (l c : Nat) (zs : List Bool), v = .slice p l c ∧ l ≤ 9223372036854775807 ∧ Rd W 1 p l (zs.map fun n => .bool n) := by
  obtain ⟨p0, l0, c0, rfl⟩ := okWide_slice Try.underlying59 hv
  obtain ⟨fuel, h⟩ := h
  have hf : Try.prog.info? T_bool = some (Try.prog.types[T_bool]'(of_decide_eq_true (by kernel_rfl))) := by kernel_rfl
  obtain ⟨p, l, c, zs, e, hzl, hlc, hc, hp, hz⟩ := open_elems (sz := 1) (R := fun a (n : Bool) => W.cell? a = some (.bool n)) Try.underlying59 hf (by kernel_rfl) h (fun a cs n y hcl hat htr => by
    obtain ⟨m, rfl, _⟩ := DataW.trod_bool Try.underlying4 htr
    have := hat 0 (by omega)
    rw [add_zero] at this
    exact ⟨m, by simpa using this⟩)
  cases e
  refine ⟨p0, l0, c0, zs, rfl, by simp only [maxLen] at hc; omega, by simp [hzl], hp, fun a e j u hj => ?_⟩
  simp only [List.getElem?_map, Option.map_eq_some_iff] at hj
  obtain ⟨n, hn, rfl⟩ := hj
  have := hz a e j n hn
  rwa [Nat.mul_one] at this
end
theorem WeakEnds_walk {W : World} {p q : Option Addr} {l c m d : Nat} {zs : List Int} {bs : List Bool} (hx : Rd W 1 p l (zs.map fun n => .int .u64 n)) (hz : ∀ n ∈ zs, 0 ≤ n ∧ n ≤ 18446744073709551615) (hy : Rd W 1 q m (bs.map fun n => .bool n)) :
    call Try.prog fn_tenonlaw12_WeakEnds #[.slice p l c, .slice q m d] W fun v w' => v = .bool true ∧ Below W.heap.size W w' := by
  apply tenonlaw12_WeakEnds_call
  unfold tenonlaw12_WeakEnds
  refine call_mono (weak_New_ok (most := 100) (Sat.start W) (by omega) (by omega)) ?_
  rintro _ w1 ⟨b, a, r, rfl, h1⟩
  refine ⟨_, _, rfl, br_false rfl ⟨fun p8 l8 c8 w => ∃ (s : WS) (gs : List Int), l8 = gs.length ∧ gs.length ≤ 60 ∧ (∀ h ∈ gs, 0 ≤ h ∧ h ≤ 18446744073709551615) ∧ Cnt s gs ∧ Sat W (tab T_uint64 1 fU64 p8 gs.length c8 gs * (WT b a r 61 s * old W)) w, ?_, ?_⟩⟩
  · have no0 : ∀ h c, ¬ Bl (⟨100, 1, [], [], 0⟩ : WS) h c := fun h c ⟨k, i, y, hy, _⟩ => by simp at hy
    refine ⟨fun p8 l8 c8 i w n => ∃ (s : WS) (gs : List Int), 0 ≤ i ∧ i ≤ 60 ∧ n = 60 - i.toNat ∧ l8 = gs.length ∧ gs.length = i.toNat ∧ (∀ h ∈ gs, 0 ≤ h ∧ h ≤ 18446744073709551615) ∧ s.most = 100 ∧ s.sp.length ≤ i.toNat ∧ Cnt s gs ∧ Sat W (tab T_uint64 1 fU64 p8 gs.length c8 gs * (WT b a r (1 + i) s * old W)) w,
      ⟨_, ⟨100, 1, [], [], 0⟩, [], by omega, by omega, rfl, rfl, rfl, by simp, rfl, Nat.le_refl _, ⟨fun h b hb => (no0 _ _ hb).elim, by simp⟩, tab_nil T_uint64 1 fU64 h1⟩, ?_⟩
    rintro u p8 _ c8 i w2 n ⟨s, gs, h0, hi, rfl, rfl, hgl, hgr, hmost, hsl, hc, h2⟩
    have out : ∃ (s : WS) (gs' : List Int), gs.length = gs'.length ∧ gs'.length ≤ 60 ∧ (∀ h ∈ gs', 0 ≤ h ∧ h ≤ 18446744073709551615) ∧ Cnt s gs' ∧ Sat W (tab T_uint64 1 fU64 p8 gs'.length c8 gs' * (WT b a r 61 s * old W)) w2 := ⟨s, gs, rfl, by omega, hgr, hc, (WT.mono (M := 61) (by omega) h2.p1).p1⟩
    refine br_dec (fun hlt => br_dec (fun hlt2 => ?_) (fun _ => out)) (fun _ => out)
    clear out
    refine rd_num (hx.old h2.right.right) h0 hlt fun a1 t htz hcell => ldI_ok hcell <| ?_
    have htr := hz t (List.mem_of_getElem? htz)
    have ok := (WT.open_ h2.p1).1
    refine call_mono (weak_Of_ok (t := t) h2.p1 (by omega) (by omega) htr.1 htr.2) ?_
    rintro _ w3 ⟨s', h, e, rfl, hO, h3⟩
    have he : e = 0 := by
      cases hO with
      | old p _ _ => rfl
      | new k hn => exact put_room ok.ok _ (by omega)
    have hlen := hO.len ok.ok
    have hrg := hO.rng ok.ok (WT.open_ h3).1.ok
    have hc' := hc.of ok hO he
    refine ⟨_, _, rfl, br_false (by simp [he]) <| new_ok h3.p1 fun k16 w4 h4 => ?_⟩
    refine tab_app u64sTy fU64_len (by decide) fU64_one (x := h) h4 rfl (by simp only [maxLen]; omega) (by omega) fun p' c' w5 h5 => ?_
    have h5 : Sat W (tab T_uint64 1 fU64 p' (gs.length + 1) c' (gs ++ [h]) * (WT b a r (1 + i + 1) s' * old W)) w5 := h5
    have next : ∀ {w : World} {s : WS}, s.most = 100 → s.sp.length ≤ i.toNat + 1 → Cnt s (gs ++ [h]) → Sat W (tab T_uint64 1 fU64 p' (gs.length + 1) c' (gs ++ [h]) * (WT b a r (1 + i + 1) s * old W)) w →
        ∃ m, m < 60 - i.toNat ∧ ∃ (s : WS) (gs' : List Int), 0 ≤ i + 1 ∧ i + 1 ≤ 60 ∧ m = 60 - (i + 1).toNat ∧ gs.length + 1 = gs'.length ∧ gs'.length = (i + 1).toNat ∧ (∀ h ∈ gs', 0 ≤ h ∧ h ≤ 18446744073709551615) ∧ s.most = 100 ∧ s.sp.length ≤ (i + 1).toNat ∧ Cnt s gs' ∧ Sat W (tab T_uint64 1 fU64 p' gs'.length c' gs' * (WT b a r (1 + (i + 1)) s * old W)) w := by
      intro w s hm hl hcn hw
      refine ⟨_, by omega, s, gs ++ [h], by omega, by omega, rfl, by simp, by rw [List.length_append]; simp; omega, fun z hzm => ?_, hm, by omega, hcn, ?_⟩
      · rcases List.mem_append.1 hzm with hzm | hzm
        · exact hgr z hzm
        · simp at hzm; subst hzm; exact hrg
      · rw [show 1 + (i + 1) = 1 + i + 1 by omega, List.length_append]
        exact hw
    refine br_dec (fun hlt3 => ?_) (fun _ => arith_i64 (by omega) (by omega) (next (hlen.2.trans hmost) (by omega) hc' h5))
    refine rd_num (hy.old h5.right.right) h0 hlt3 fun a2 bb hbz hcell2 => ldB_ok hcell2 <| br_split (fun _ => ?_) (fun _ => arith_i64 (by omega) (by omega) (next (hlen.2.trans hmost) (by omega) hc' h5))
    refine rd_num (hx.old h5.right.right) h0 hlt fun a3 t3 htz3 hcell3 => ldI_ok hcell3 ?_
    have ok5 := (WT.open_ h5.p1).1
    refine call_mono (weak_Die_ok (t := t3) h5.p1) ?_
    rintro _ w6 ⟨s6, d6, rfl, hD, h6⟩
    have hl6 := hD.len
    exact asB_ok <| arith_i64 (by omega) (by omega) (next (hl6.2.trans (hlen.2.trans hmost)) (by omega) (hc'.die ok5 hD) h6.p1)
  · rintro u p31 _ c31 w7 ⟨s, gs, rfl, hgl, hgr, hc, h7⟩
    refine ⟨fun i w n => ∃ s : WS, 0 ≤ i ∧ i ≤ gs.length ∧ n = gs.length - i.toNat ∧ Cnt s (gs.drop i.toNat) ∧ Sat W (tab T_uint64 1 fU64 p31 gs.length c31 gs * (WT b a r 61 s * old W)) w, ⟨_, s, by omega, by omega, rfl, hc, h7⟩, ?_⟩
    rintro u i w8 n ⟨s, h0, hi, rfl, hc, h8⟩
    refine br_dec (fun hlt => ?_) (fun hge => ?_)
    · have hil : i.toNat < gs.length := by omega
      have hg : gs[i.toNat]? = some gs[i.toNat] := by simp [hil]
      rw [List.drop_eq_getElem_cons hil] at hc
      have hrg := hgr _ (List.getElem_mem hil)
      refine tab_idx fU64_len h8.left (by decide) h0 hg fun g hg2 => ldI_ok (tab_cell fU64_len (j := 0) h8.left hg2 hg (by decide) rfl) <| ?_
      have ok := (WT.open_ h8.p1).1
      refine call_mono (weak_Down_ok (h := gs[i.toNat]) h8.p1 (by omega) hrg.1 hrg.2) ?_
      rintro _ w9 ⟨s', n, e, rfl, hD, h9⟩
      obtain ⟨he, hc'⟩ := hc.down ok hD
      exact ⟨_, _, rfl, br_false (by simp [he]) <| arith_i64 (by omega) (by omega) ⟨_, by omega, s', by omega, by omega, rfl, by rw [show (i + 1).toNat = i.toNat + 1 by omega]; exact hc', h9.p1⟩⟩
    · rw [List.drop_of_length_le (by omega)] at hc
      have ok := (WT.open_ h8.p1).1
      have hnil := hc.nil_ ok
      refine call_mono (told_ok (ps := pairsW s) (most := 9) (by rw [hnil]; simp) (weak_hit ok) h8.p1) ?_
      rintro _ w10 ⟨p1, m, c1, q1, d1, rfl, hm1, h10⟩
      have hm1 : m = 0 := by rw [hm1, hnil]; simp
      subst hm1
      refine ⟨_, _, _, _, _, _, rfl, br_true rfl ?_⟩
      exact awake_done h10.right.right.right
theorem WeakEnds_row {W : World} {v v' : Value} (h : ∃ (p : Option Addr) (l c : Nat) (zs : List Int), v = .slice p l c ∧ l ≤ 9223372036854775807 ∧ Rd W 1 p l (zs.map fun n => .int .u64 n) ∧ ∀ n ∈ zs, 0 ≤ n ∧ n ≤ 18446744073709551615)
    (h' : ∃ (p : Option Addr) (l c : Nat) (zs : List Bool), v' = .slice p l c ∧ l ≤ 9223372036854775807 ∧ Rd W 1 p l (zs.map fun n => .bool n)) :
    call Try.prog fn_tenonlaw12_WeakEnds #[v, v'] W fun v w' => v = .bool true ∧ Below W.heap.size W w' := by
  obtain ⟨p, l, c, zs, rfl, hl, hx, hz⟩ := h
  obtain ⟨q, m, d, bs, rfl, hm, hy⟩ := h'
  exact WeakEnds_walk hx hz hy
end Go.Proofs.Ytiogdefiokmmkaa
