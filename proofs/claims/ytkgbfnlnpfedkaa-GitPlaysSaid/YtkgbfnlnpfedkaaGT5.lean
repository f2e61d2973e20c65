/- GitKeeps: the walk. No conditions. -/
import Derived.Test.YtkgbfnlnpfedkaaGT4
set_option linter.unusedVariables false
set_option linter.unusedSimpArgs false
set_option maxRecDepth 100000
namespace Go.Proofs.Ytkgbfnlnpfedkaa
open Go.Sp Go.RowKit

theorem leave_mem {s : AS GE} {o : Int} {e : GE} : e ∈ (leave s o).2 ↔ e.1 = o ∧ ∃ h, Liv s h e := by
  unfold leave
  rw [dropAll_snd]
  simp only [List.mem_map, List.mem_filter]
  constructor
  · rintro ⟨p, ⟨hp, hq⟩, rfl⟩
    exact ⟨by simpa [ofO] using hq, _, live_liv.2 ⟨p, hp, rfl, rfl⟩⟩
  · rintro ⟨ho, h, hl⟩
    obtain ⟨p, hp, rfl, rfl⟩ := live_liv.1 hl
    exact ⟨p, ⟨hp, by simpa [ofO] using ho⟩, rfl⟩
theorem Liv.gput {s : AS GE} (hs : AOk s) {h : Int} {e : GE} (hl : Liv s h e) (o : Int) (x : OR) : Liv (gput s o x).1 h e := by
  unfold Proofs.Ytkgbfnlnpfedkaa.gput
  split
  · exact hl
  · by_cases he : (put s (o, x)).2.2 = 0
    · exact (put_liv hs he).2 (.inl hl)
    · rw [put_same hs he]; exact hl
theorem Liv.dropR {s : AS GE} (hs : AOk s) {h h' : Int} {e : GE} (hl : Liv s h e) (hne : h' ≠ h) : Liv (dropR ge0 s h').1 h e := by
  cases hf : Proofs.Ytkgbfnlnpfedkaa.find s h' with
  | none => rw [dropR_none hf]; exact hl
  | some i =>
    obtain ⟨y, hy, h1, rfl⟩ := (find_iff hs).1 hf
    rw [dropR_some hf hy]
    exact (drop_liv hs hy h1).2 ⟨hl, fun e => hne e.symm⟩
theorem rd_refs {w : World} {p : Option Addr} {l : Nat} {xs : List OR} {i : Nat} {x : OR} {a : Addr} {K : Array Value → Prop} (h : Rd w 36 p l (xs.flatMap orC)) (hp : p = some a) (hx : xs[i]? = some x) (hk : K (orF x.1)) : ldA (a.add (i * 36)) 36 w K := by
  refine ldA_ok (orF_sz x) (fun j hj => ?_) hk
  have e : (orC x)[j]? = some ((orC x)[j]'(by rw [orC_len]; exact hj)) := by simp [orC_len, hj]
  rw [add_add, h.2.2 a hp _ _ ((flatGet orC_len hx hj).trans e), ← orC_arr, List.getElem?_toArray, e]
theorem GitKeeps_walk {W : World} {p : Option Addr} {l c : Nat} {xs : List GAct} {o : Int} (hx : Acts W p l xs) (hl : l ≤ 9223372036854775807) :
    call Try.prog fn_tenonlaw19_GitKeeps #[.slice p l c, .int .i64 o] W fun v w' => v = .bool true ∧ Below W.heap.size W w' := by
  apply tenonlaw19_GitKeeps_call
  unfold tenonlaw19_GitKeeps
  refine call_mono (git_New_ok (most := 200) (Sat.start W) (by decide) (by decide)) ?_
  rintro _ w1 ⟨b, a, rfl, h1⟩
  have k1 : AOk (⟨200, 1, [], [], 0⟩ : AS GE) := AOk.start (by decide) (by decide) (by decide) (by decide)
  refine ⟨_, _, rfl, call_mono (some_ok h1) ?_⟩
  rintro _ w2 ⟨rfl, h2⟩
  refine asA_ok <| call_mono (git_Put_ok (o := o) (x := orS) h2 k1) ?_
  rw [orS_put]
  have k2 := k1.put ((o, orS) : GE)
  have e2 : put (⟨200, 1, [], [], 0⟩ : AS GE) (o, orS) = (⟨200, 1, [⟨(o, orS), 1, 1⟩], [], 1⟩, 4294967297, 0) := rfl
  rw [e2] at k2 ⊢
  rintro _ w3 ⟨rfl, h3⟩
  have l0 : Liv (⟨200, 1, [⟨(o, orS), 1, 1⟩], [], 1⟩ : AS GE) 4294967297 (o, orS) := ⟨0, _, rfl, rfl, rfl, rfl⟩
  refine ⟨_, _, rfl, br_false rfl <| br_false rfl ⟨fun w => ∃ s : AS GE, AOk s ∧ Liv s 4294967297 (o, orS) ∧ Sat W (Gt b a s * old W) w, ?_, ?_⟩⟩
  · refine ⟨fun i w n => ∃ s : AS GE, 0 ≤ i ∧ i ≤ 60 ∧ n = 60 - i.toNat ∧ AOk s ∧ Liv s 4294967297 (o, orS) ∧ Sat W (Gt b a s * old W) w, ⟨_, _, by omega, by omega, rfl, k2, l0, h3⟩, ?_⟩
    rintro u i w4 n ⟨s, h0, hi, rfl, hs, hc, h4⟩
    refine br_dec (fun hlt => br_dec (fun hlt2 => ?_) (fun _ => ⟨s, hs, hc, h4⟩)) (fun _ => ⟨s, hs, hc, h4⟩)
    refine hx.idx h4.right h0 hlt fun a0 x hxa ha => ha.ld <| new_ok h4 fun k17 w5 h5 => stA_ok h5 rfl (by simp [acL_len]) (fun u hu => acL_one x u hu) fun w6 h6 => ?_
    have c39 : (acL x).toArray[39]? = some (.int .u64 x.raw) := by rw [List.getElem?_toArray]; exact acL_raw x
    refine ⟨fun w => ∃ s : AS GE, AOk s ∧ Liv s 4294967297 (o, orS) ∧ Sat W (Gt b a s * old W) w, ?_, ?_⟩
    · obtain ⟨k, hpk, _⟩ := tenonref01_Pick_ok x.kind 3 ha.kind.1 ha.kind.2 (by omega) (by omega)
      refine ldI_ok (cell_blk h6 (i := 0) rfl) <| call_pure hpk <| asI_ok <| br_split (fun _ => ?_) (fun _ => br_split (fun _ => ?_) (fun _ => ?_))
      · refine ldI_ok (cell_blk h6 (i := 2) rfl) <| ldA_blk (o := 3) (n := 36) h6 (by simp [acL_len]) ?_
        rw [acA_or]
        refine call_mono (git_Put_ok (o := x.ow) (x := x.x) h6.right hs |> fun h => h) ?_
        rintro _ w7 ⟨rfl, h7⟩
        exact ⟨_, _, rfl, _, hs.gput _ _, hc.gput hs _ _, h7⟩
      · refine ldI_ok (cell_blk h6 (i := 2) rfl) <| br_split (fun hne => ldI_ok (cell_blk h6 (i := 2) rfl) <| call_mono (git_Leave_ok (o := x.ow) h6.right hs) ?_) (fun _ => ⟨s, hs, hc, h6.right⟩)
        have hne : x.ow ≠ o := by simpa using hne
        obtain ⟨k3, _, k5⟩ := leave_ok hs x.ow
        rintro _ w7 ⟨p', l', c', rfl, _, h7⟩
        exact asS_ok ⟨_, k3, (k5 _ _).2 ⟨hc, fun e => hne e.symm⟩, h7.right⟩
      · refine ldI_ok (cell_blk h6 c39) <| br_split (fun hne => ldI_ok (cell_blk h6 c39) <| call_mono (git_Drop_ok h6.right hs ha.raw.1 ha.raw.2) ?_) (fun _ => ⟨s, hs, hc, h6.right⟩)
        have hne : x.raw ≠ 4294967297 := by simpa using hne
        rintro _ w7 ⟨rfl, h7⟩
        exact ⟨_, _, rfl, _, hs.dropR _, hc.dropR hs hne, h7⟩
    · rintro u w11 ⟨s, hs, hc, h11⟩
      obtain ⟨j, y, hf, hy, hyx⟩ := (Liv.find hs).1 hc
      refine call_mono (git_Get_ok (h := 4294967297) h11 hs (by decide) (by decide)) ?_
      rw [hf, Option.bind_some, hy]
      rintro _ w12 ⟨h12, rfl⟩
      rw [hyx]
      refine ⟨_, _, rfl, new_ok h12 fun k40 w13 h13 => stA_ok h13 rfl (orF_sz orS) (orF_oneA orS) fun w14 h14 => br_false rfl <| ldA_blk0 h14.drew (orF_sz orS) <| call_mono (some_ok h14.drew) ?_⟩
      rintro _ w15 ⟨rfl, h15⟩
      exact asA_ok <| keepS_blk0 h15 <| or_eq (x := orS) (y := orS) <| br_false (by simp) <| arith_i64 (by omega) (by omega) ⟨_, by omega, s, by omega, by omega, rfl, hs, hc, h15.right⟩
  · rintro u w16 ⟨s, hs, hc, h16⟩
    obtain ⟨k3, _, k5⟩ := leave_ok hs o
    refine call_mono (git_Leave_ok (o := o) h16 hs) ?_
    rintro _ w17 ⟨p', l', c', rfl, hl', h17⟩
    have hgone : ∀ h e, Liv (leave s o).1 h e → e.1 ≠ o := fun h e hl => ((k5 h e).1 hl).2
    refine asS_ok <| call_mono (git_Get_ok (h := 4294967297) h17.p1 k3 (by decide) (by decide)) ?_
    have hnf : find (leave s o).1 4294967297 = none := by
      cases hf : find (leave s o).1 4294967297 with
      | none => rfl
      | some i =>
        obtain ⟨y, hy, h1, e⟩ := (find_iff k3).1 hf
        have l1 : Liv (leave s o).1 4294967297 y.x := ⟨i, y, hy, h1, e, rfl⟩
        have := Liv.one hs ((k5 _ _).1 l1).1 hc
        exact absurd (by rw [this]) (hgone _ _ l1)
    rw [hnf]
    rintro _ w18 ⟨h18, rfl⟩
    refine ⟨_, _, rfl, new_ok h18 fun k53 w19 h19 => stA_ok h19 rfl (orF_sz or0) (orF_oneA or0) fun w20 h20 => ?_⟩
    have h20 := h20.right.p1
    have hll : l' ≤ 65536 := by
      rw [hl']
      unfold leave
      rw [dropAll_snd, List.length_map]
      refine Nat.le_trans (List.length_filter_le _ _) ?_
      rw [liveFrom_length, ← hs.cnt]
      have := hs.bound
      have := hs.len
      have := hs.most1
      omega
    generalize hys : (leave s o).2.map (·.2) = ys at h20
    have hyl : ys.length = l' := by rw [← hys, List.length_map, hl']
    have hin : orS ∈ ys := by
      rw [← hys]
      exact List.mem_map.2 ⟨(o, orS), leave_mem.2 ⟨rfl, _, hc⟩, rfl⟩
    refine ⟨fun f n w m => 0 ≤ n ∧ n ≤ l' ∧ m = l' - n.toNat ∧ (f = true ↔ orS ∈ ys.take n.toNat) ∧ Sat W (tab T_api_Objref 36 orC p' l' c' ys * (Gt b a (leave s o).1 * old W)) w, ⟨_, by omega, by omega, rfl, by simp, h20⟩, ?_⟩
    rintro u f n w21 m ⟨h0, hn, rfl, hfi, h21⟩
    refine br_dec (fun hlt => br_split (fun hf => ?_) (fun hf => ?_)) (fun hge => ?_)
    · refine arith_i64 (by omega) (by omega) ⟨_, by omega, by omega, by omega, rfl, ⟨fun _ => ?_, fun _ => rfl⟩, h21.drew⟩
      have := hfi.1 hf
      exact (List.take_subset_take_left ys (show n.toNat ≤ (n + 1).toNat by omega)) this
    · obtain ⟨y, hy⟩ : ∃ y, ys[n.toNat]? = some y := ⟨ys[n.toNat]'(by omega), by simp⟩
      have h22 := h21.drew
      refine tab_idx orC_len h22.left (by decide) h0 hy fun g hg => tab_ldA0 orC_len h22.left hg hy ?_
      rw [orC_arr]
      refine call_mono (some_ok h22) ?_
      rintro _ w22 ⟨rfl, h23⟩
      have kp : ∀ {X : Prop}, X → keepS (cellsOf (⟨g, n.toNat * 36, none⟩ : Addr) (orF y.1)) w22 X := by
        intro X hX
        have h24 : ∀ q ∈ cellsOf (⟨g, n.toNat * 36, none⟩ : Addr) (orF y.1), w22.cell? q.1 = some q.2 := by
          refine mem_cellsOf.2 fun j hj => ?_
          rw [orF_sz] at hj
          have e : (orC y)[j]? = some ((orC y)[j]'(by rw [orC_len]; exact hj)) := by simp [orC_len, hj]
          rw [tab_cell orC_len h23.left hg hy hj e, ← orC_arr, List.getElem?_toArray, e]
        revert h24
        generalize cellsOf (⟨g, n.toNat * 36, none⟩ : Addr) (orF y.1) = S
        intro h1
        induction S with
        | nil => exact hX
        | cons q S ih => exact ⟨h1 q (.head _), ih fun r hr => h1 r (.tail _ hr)⟩
      refine asA_ok <| kp <| or_eq (x := y) (y := orS) <| arith_i64 (by omega) (by omega) ⟨_, by omega, by omega, by omega, rfl, ?_, h23⟩
      have hno : orS ∉ ys.take n.toNat := fun hm => by rw [hfi.2 hm] at hf; cases hf
      rw [show (n + 1).toNat = n.toNat + 1 by omega, List.take_add_one, hy]
      simp only [decide_eq_true_eq, List.mem_append, Option.toList_some, List.mem_singleton]
      exact ⟨fun e => .inr e.symm, fun h => h.elim (fun h => absurd h hno) (fun h => h.symm)⟩
    · have e : ys.take n.toNat = ys := List.take_of_length_le (by omega)
      rw [e] at hfi
      refine br_true (hfi.2 hin) <| br_true rfl <| call_mono (git_Leave_ok (o := o) (h21.p1) k3) ?_
      have hnil : (leave (leave s o).1 o).2 = [] := by
        refine List.eq_nil_iff_forall_not_mem.2 fun e he => ?_
        obtain ⟨e1, h, hl⟩ := leave_mem.1 he
        exact hgone h e hl e1
      rw [hnil]
      rintro _ w23 ⟨p2, l2, c2, rfl, rfl, h23⟩
      refine asS_ok <| br_true rfl <| call_mono (tenonlaw19_awake_ok h23.right.right.right) ?_
      rintro _ w2 ⟨rfl, h2⟩
      exact asB_ok ⟨rfl, h2.below'⟩
theorem GitKeeps_row {W : World} {v : Value} {o : Int} (h : ∃ p l c xs, v = .slice p l c ∧ l ≤ 9223372036854775807 ∧ Acts W p l xs) (ho : IntKind.i64.min ≤ o ∧ o ≤ IntKind.i64.max) :
    call Try.prog fn_tenonlaw19_GitKeeps #[v, .int .i64 o] W fun v w' => v = .bool true ∧ Below W.heap.size W w' := by
  obtain ⟨p, l, c, xs, rfl, hl, hx⟩ := h
  exact GitKeeps_walk hx hl
end Go.Proofs.Ytkgbfnlnpfedkaa
