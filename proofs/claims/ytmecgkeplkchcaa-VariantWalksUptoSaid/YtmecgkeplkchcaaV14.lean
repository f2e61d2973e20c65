/- Values: reading gives back what was laid, and no other. No conditions. -/
import Derived.Test.YtmecgkeplkchcaaV13
set_option linter.unusedVariables false
set_option linter.unusedSimpArgs false
set_option linter.unusedSectionVars false
set_option maxRecDepth 100000
namespace Go.Proofs.Ytmecgkeplkchcaa
open Go.Sp Go.RowKit

theorem dn_succ {d : Int} (h0 : 0 ≤ d) (h8 : d ≤ 1000) : dn d = d + 1 := by
  unfold dn
  simp only [IntKind.wrap, IntKind.signed, IntKind.bits]
  simp
  split <;> omega
theorem nz_zero {l : List Int} (h : nz l = 0) : ∀ e ∈ l, e = 0 := by
  induction l with
  | nil => simp
  | cons a l ih =>
    rw [nz] at h
    split at h
    · rename_i hne; exact absurd h hne
    · rename_i he
      intro q hq
      rcases List.mem_cons.1 hq with rfl | hq
      · simpa using he
      · exact ih h q hq
theorem nz_none {l : List Int} (h : ∀ e ∈ l, e = 0) : nz l = 0 := by
  induction l with
  | nil => rfl
  | cons a l ih =>
    rw [nz, if_neg (by simp [h a (.head _)])]
    exact ih fun e he => h e (.tail _ he)
/-- What is known of a node that may be. -/
theorem formB_0 {x : VT} (h : formB x = true) (k : x.kd = 0) : x.n = 0 ∧ x.s = ByteArray.empty := by
  rw [formB, if_pos k] at h
  simp at h
  exact ⟨h.1.1, noS_empty h.1.2⟩
theorem formB_1s {x : VT} (h : formB x = true) (k : x.kd = 1) : x.s = ByteArray.empty := by
  rw [formB, if_neg (by omega), if_pos k] at h
  simp at h
  exact noS_empty h.1.2
theorem formB_2 {x : VT} (h : formB x = true) (k : x.kd = 2) : (-2147483648 ≤ x.n ∧ x.n ≤ 2147483647) ∧ x.s = ByteArray.empty := by
  rw [formB, if_neg (by omega), if_neg (by omega), if_pos k] at h
  simp at h
  exact ⟨h.1.1, noS_empty h.1.2⟩
theorem formB_3 {x : VT} (h : formB x = true) (k : x.kd = 3 ∨ x.kd = 5) : x.s = ByteArray.empty := by
  rw [formB, if_neg (by omega), if_neg (by omega), if_neg (by omega), if_pos k] at h
  simp at h
  exact noS_empty h.1
theorem formB_4 {x : VT} (h : formB x = true) (k : x.kd = 4) : x.n = 0 := by
  rw [formB, if_neg (by omega), if_neg (by omega), if_neg (by omega), if_neg (by omega), if_pos k] at h
  simp at h
  exact h.1
theorem formB_6 {x : VT} (h : formB x = true) (k : x.kd = 6) : x.n = 0 ∧ x.s = ByteArray.empty := by
  rw [formB, if_neg (by omega), if_neg (by omega), if_neg (by omega), if_neg (by omega), if_neg (by omega), if_pos k] at h
  simp at h
  exact ⟨h.1, noS_empty h.2⟩
theorem er_leaf {x : VT} {k n : Int} {s : ByteArray} (hk : x.kd = k) (hn : x.n = n) (hs : x.s = s) (hl : x.l = []) : er (.mk k n s none 0 []) = er x := by
  rw [er_iff]
  exact ⟨hk.symm, hn.symm, hs.symm, by rw [hl]; rfl⟩
theorem rd_lays (x : VT) : ∀ (f : Nat) (d : Int) (bs suf : List Int), d + f = 8 → 0 ≤ d → chkR d x = 0 → VIn x → ∃ y, rdV (lays bs x ++ suf) f bs.length = (y, (lays bs x).length, 0) ∧ er y = er x := by
  induction x using VT.ind with
  | h x ih =>
    intro f d bs suf hf hd hc hI
    rw [chkR_eq] at hc
    have c1 : chk1 d x = 0 := by
      by_cases h : chk1 d x = 0
      · exact h
      · rw [if_pos h] at hc; exact absurd hc h
    rw [if_neg (by simp [c1])] at hc
    obtain ⟨hd8, hfm, hss, hll⟩ := chk1_zero c1
    have hk := formB_kd hfm
    have hnr := hI.n
    match f, hf with
    | 0, hf => omega
    | f + 1, hf =>
      rw [dn_succ hd (by omega)] at hc
      obtain ⟨b1, hb1⟩ : ∃ b1, b1 = bs ++ form bs.length x.kd 1 := ⟨_, rfl⟩
      have r1 : ∀ rest, readR (b1 ++ rest) bs.length 1 = (x.kd, b1.length, 0) := fun rest => by
        rw [hb1, List.append_assoc, readR_form rfl hk.1 (by show x.kd < 256 ^ 1; omega), List.length_append]
      have r2 : ∀ {n s : Int} (rest : List Int), fitsB s = true → 0 ≤ n → n < 256 ^ s.toNat → readR (b1 ++ form b1.length n s ++ rest) b1.length s = (n, (b1 ++ form b1.length n s).length, 0) := fun rest h1 h2 h3 => by
        rw [List.append_assoc, readR_form h1 h2 h3, List.length_append]
      by_cases k6 : x.kd = 6
      · have f1 : form1 bs x = b1 ++ form b1.length x.l.length 4 := by
          rw [form1, if_neg (by omega), if_neg (by omega), if_neg (by omega), if_neg (by omega), if_pos k6, ← hb1]
        obtain ⟨hn0, hs0⟩ := formB_6 hfm k6
        obtain ⟨b2, hb2⟩ : ∃ b2, b2 = b1 ++ form b1.length x.l.length 4 := ⟨_, rfl⟩
        have key : ∀ (l : List VT), (∀ y ∈ l, y ∈ x.l) → ∀ b : List Int, ∃ ys, rdL (rdV (l.foldl lays b ++ suf) f) l.length b.length = (ys, (l.foldl lays b).length, 0) ∧ ys.map er = l.map er := by
          intro l
          induction l with
          | nil => intro _ b; exact ⟨[], rfl, rfl⟩
          | cons y l ihl =>
            intro hm b
            obtain ⟨t, ht⟩ := foldl_pre l (lays b y)
            have hy := hm y (.head _)
            obtain ⟨y', e1, e2⟩ := ih y hy f (d + 1) b (t ++ suf) (by omega) (by omega) (nz_zero hc _ (List.mem_map_of_mem hy)) (hI.part hy)
            obtain ⟨ys, e3, e4⟩ := ihl (fun z hz => hm z (.tail _ hz)) (lays b y)
            rw [← List.append_assoc, ← ht] at e1
            refine ⟨y' :: ys, ?_, by rw [List.map_cons, List.map_cons, e2, e4]⟩
            rw [List.foldl_cons, List.length_cons, rdL]
            rw [e1]
            dsimp only
            rw [e3]
            simp
        obtain ⟨ys, e1, e2⟩ := key x.l (fun y h => h) b2
        obtain ⟨t, ht⟩ := foldl_pre x.l b2
        have el : lays bs x = x.l.foldl lays b2 := by rw [lays_eq, f1, hb2]
        rw [el]
        have q1 : readR (x.l.foldl lays b2 ++ suf) bs.length 1 = (x.kd, b1.length, 0) := by
          rw [ht, hb2, List.append_assoc, List.append_assoc, r1]
        have q2 : readR (x.l.foldl lays b2 ++ suf) b1.length 4 = ((x.l.length : Int), b2.length, 0) := by
          rw [ht, hb2, List.append_assoc, r2 _ rfl (by omega) (by show (x.l.length : Int) < 256 ^ 4; omega)]
        rw [rdV]
        simp only [q1, q2, k6]
        rw [if_neg (by simp), if_neg (by decide), if_neg (by decide), if_neg (by decide), if_pos trivial, if_neg (by simp), if_neg (by omega), Int.toNat_natCast, e1]
        refine ⟨_, by simp; rfl, ?_⟩
        rw [er_iff]
        exact ⟨k6.symm, hn0.symm, hs0.symm, e2⟩
      have hl0 := formB_l hfm k6
      rw [lays_leaf hl0]
      by_cases k4 : x.kd = 4
      · have f1 : form1 bs x = b1 ++ form b1.length x.s.size 4 ++ bytesS x.s := by
          rw [form1, if_neg (by omega), if_neg (by omega), if_neg (by omega), if_pos k4, ← hb1]
        have hn0 := formB_4 hfm k4
        rw [f1]
        have q1 : readR (b1 ++ form b1.length x.s.size 4 ++ bytesS x.s ++ suf) bs.length 1 = (x.kd, b1.length, 0) := by
          rw [List.append_assoc, List.append_assoc, r1]
        have q2 := textR_lay (pre := b1) (rest := suf) (xs := bytesS x.s) (most := 256) (by rw [bytesS_len]; omega) (by rw [bytesS_len]; omega)
        rw [bytesS_len] at q2
        rw [rdV]
        simp only [q1, q2, k4]
        rw [if_neg (by simp), if_neg (by decide), if_neg (by decide), if_pos trivial]
        refine ⟨_, by simp; rfl, ?_⟩
        exact er_leaf k4 hn0 (strB_bytesS _).symm hl0
      by_cases k0 : x.kd = 0
      · have f1 : form1 bs x = b1 := by
          rw [form1, if_neg (by omega), if_neg (by omega), if_neg (by omega), if_neg (by omega), if_neg (by omega), ← hb1]
        obtain ⟨hn0, hs0⟩ := formB_0 hfm k0
        rw [f1, rdV]
        simp only [r1, k0]
        rw [if_neg (by simp), if_pos trivial]
        exact ⟨_, rfl, er_leaf k0 hn0 hs0 hl0⟩
      have kb : x.kd = 1 ∨ x.kd = 2 ∨ x.kd = 3 ∨ x.kd = 5 := by omega
      -- a number
      have num : ∀ {n s : Int}, form1 bs x = b1 ++ form b1.length n s → s = sizeK x.kd → fitsB s = true → 0 ≤ n → n < 256 ^ s.toNat → (x.kd = 1 → n ≤ 1) → numK x.kd n = x.n → x.s = ByteArray.empty →
          ∃ y, rdV (form1 bs x ++ suf) (f + 1) bs.length = (y, (form1 bs x).length, 0) ∧ er y = er x := by
        intro n s f1 hs hfit h0 h1 hb hN hS
        have q1 : readR (b1 ++ form b1.length n s ++ suf) bs.length 1 = (x.kd, b1.length, 0) := by rw [List.append_assoc, r1]
        have q2 := r2 suf hfit h0 h1
        rw [f1, rdV]
        simp only [q1]
        rw [if_neg (by simp), if_neg k0, if_pos kb, ← hs]
        simp only [q2]
        rw [if_neg (by simp), if_neg (by omega), hN]
        exact ⟨_, rfl, er_leaf rfl rfl hS hl0⟩
      rcases kb with k | k | k | k
      · have hn := formB_1 hfm k
        refine num (n := x.n) (s := 1) (by rw [form1, if_pos k, ← hb1]) (by rw [k]; rfl) rfl (by omega) (by show x.n < 256 ^ 1; omega) (by omega) ?_ (formB_1s hfm k)
        rw [numK, if_neg (by omega), IntKind.wrap_i64]
        omega
      · obtain ⟨hn, hs⟩ := formB_2 hfm k
        refine num (n := x.n % 4294967296) (s := 4) (by rw [form1, if_neg (by omega), if_pos k, ← hb1]) (by rw [k]; rfl) rfl (by omega) (by show x.n % 4294967296 < 256 ^ 4; omega) (by omega) ?_ hs
        rw [numK, if_pos k]
        simp only [IntKind.wrap, IntKind.signed, IntKind.bits]
        simp
        split <;> omega
      all_goals
        have hs := formB_3 hfm (by omega)
        refine num (n := un x.n) (s := 8) (by rw [form1, if_neg (by omega), if_neg (by omega), if_pos (by omega), ← hb1]) (by rw [k]; rfl) rfl (by unfold un; omega) (by show un x.n < 256 ^ 8; unfold un; omega) (by omega) ?_ hs
        rw [numK, if_neg (by omega), IntKind.wrap_i64]
        unfold un
        omega

/-- What was read lays what was read. -/
theorem lays_rd {bs : List Int} (hr : ∀ b ∈ bs, 0 ≤ b ∧ b ≤ 255) : ∀ (f : Nat) (o o' : Nat) (y : VT), f ≤ 8 → o ≤ bs.length → rdV bs f o = (y, o', 0) → lays (bs.take o) y = bs.take o' ∧ o' ≤ bs.length ∧ chkR (8 - f) y = 0 := by
  intro f
  induction f with
  | zero => intro o o' y _ _ h; simp [rdV] at h
  | succ f ih =>
    intro o o' y hf8 ho h
    have tl : ∀ {k : Nat}, k ≤ bs.length → (bs.take k).length = k := fun h => by rw [List.length_take]; omega
    have leaf : ∀ {k n : Int} {s : ByteArray}, formB (.mk k n s none 0 []) = true → s.size ≤ 256 → chkR (8 - ((f + 1 : Nat) : Int)) (.mk k n s none 0 []) = 0 := by
      intro k n s hfm hs
      have c1 : chk1 (8 - ((f + 1 : Nat) : Int)) (.mk k n s none 0 []) = 0 := by
        rw [chk1, if_neg (by omega), if_neg (by simp [hfm]), if_neg (by simp only [VT.s]; omega), if_neg (by simp [VT.l])]
      rw [chkR_eq, if_neg (fun q => q c1)]
      rfl
    rw [rdV] at h
    have n1r := readR_num (bs := bs) (at_ := o) (size := 1) hr
    obtain ⟨⟨n1, o1, e1⟩, E1⟩ : ∃ t, readR bs o 1 = t := ⟨_, rfl⟩
    simp only [E1] at h n1r
    have he1 : e1 = 0 := by
      by_cases q : e1 = 0
      · exact q
      · rw [if_pos q] at h; simp only [Prod.mk.injEq] at h; exact absurd h.2.2 q
    subst he1
    rw [if_neg (by simp)] at h
    obtain ⟨F1, L1⟩ := form_readR hr ho E1
    have hb1 : (bs.take o ++ form (bs.take o).length n1 1) = bs.take o1 := by rw [tl ho, F1]
    by_cases k0 : n1 = 0
    · rw [if_pos k0] at h
      simp only [Prod.mk.injEq] at h
      obtain ⟨rfl, rfl, _⟩ := h
      subst k0
      refine ⟨?_, L1, leaf (by simp [formB, VT.kd, VT.n, VT.s, VT.l, noS_E]) (by decide)⟩
      rw [lays_leaf rfl, form1]
      exact hb1
    rw [if_neg k0] at h
    by_cases kb : n1 = 1 ∨ n1 = 2 ∨ n1 = 3 ∨ n1 = 5
    · rw [if_pos kb] at h
      have q2 := readR_num (bs := bs) (at_ := o1) (size := sizeK n1) hr
      have q2l := readR_lt (bs := bs) (o := o1) (s := sizeK n1) hr
      obtain ⟨⟨n2, o2, e2⟩, E2⟩ : ∃ t, readR bs o1 (sizeK n1) = t := ⟨_, rfl⟩
      simp only [E2] at h q2 q2l
      have he2 : e2 = 0 := by
        by_cases q : e2 = 0
        · exact q
        · rw [if_pos q] at h; simp only [Prod.mk.injEq] at h; exact absurd h.2.2 q
      subst he2
      rw [if_neg (by simp)] at h
      by_cases hbool : n1 = 1 ∧ n2 > 1
      · rw [if_pos hbool] at h; simp at h
      rw [if_neg hbool] at h
      simp only [Prod.mk.injEq] at h
      obtain ⟨rfl, rfl, _⟩ := h
      obtain ⟨F2, L2⟩ := form_readR hr L1 E2
      have fin : ∀ {N m s : Int}, numK n1 n2 = N → sizeK n1 = s → form1 (bs.take o) (.mk n1 N ByteArray.empty none 0 []) = (bs.take o ++ form (bs.take o).length n1 1) ++ form (bs.take o ++ form (bs.take o).length n1 1).length m s → m = n2 → formB (.mk n1 N ByteArray.empty none 0 []) = true →
          lays (bs.take o) (.mk n1 (numK n1 n2) ByteArray.empty none 0 []) = bs.take o2 ∧ o2 ≤ bs.length ∧ chkR (8 - ((f + 1 : Nat) : Int)) (.mk n1 (numK n1 n2) ByteArray.empty none 0 []) = 0 := by
        rintro N m s rfl rfl hf1 rfl hfm
        refine ⟨?_, L2, leaf hfm (by decide)⟩
        rw [lays_leaf rfl, hf1, hb1, tl L1, F2]
      rcases kb with rfl | rfl | rfl | rfl
      · have q : n2 < 256 := q2l
        have e : numK 1 n2 = n2 := by
          rw [numK, if_neg (by decide), IntKind.wrap_i64]
          omega
        refine fin (N := n2) (m := n2) (s := 1) e rfl rfl rfl ?_
        have : n2 = 0 ∨ n2 = 1 := by omega
        simp [formB, VT.kd, VT.n, VT.s, VT.l, noS_E]
        exact decide_eq_true this
      · have q : n2 < 4294967296 := q2l
        have w := wrap_32_in n2
        refine fin (N := IntKind.wrap .i32 n2) (m := IntKind.wrap .i32 n2 % 4294967296) (s := 4) rfl rfl rfl ?_ ?_
        · simp only [IntKind.wrap, IntKind.signed, IntKind.bits]
          simp
          split <;> omega
        · simp [formB, VT.kd, VT.n, VT.s, VT.l, noS_E]
          exact decide_eq_true w
      all_goals
        refine fin (N := IntKind.wrap .i64 n2) (m := un (IntKind.wrap .i64 n2)) (s := 8) rfl rfl rfl ?_ ?_
        · simp only [IntKind.wrap, IntKind.signed, IntKind.bits, un]
          simp
          split <;> omega
        · simp [formB, VT.kd, VT.n, VT.s, VT.l, noS_E]
    rw [if_neg kb] at h
    by_cases k4 : n1 = 4
    · rw [if_pos k4] at h
      subst k4
      obtain ⟨⟨t2, o2, e2⟩, E2⟩ : ∃ t, textR bs o1 256 = t := ⟨_, rfl⟩
      simp only [E2] at h
      have he2 : e2 = 0 := by
        by_cases q : e2 = 0
        · exact q
        · rw [if_pos q] at h; simp only [Prod.mk.injEq] at h; exact absurd h.2.2 q
      subst he2
      rw [if_neg (by simp)] at h
      simp only [Prod.mk.injEq] at h
      obtain ⟨rfl, rfl, _⟩ := h
      obtain ⟨F2, L2, M2, R2⟩ := form_textR hr L1 E2
      refine ⟨?_, L2, leaf (by simp [formB, VT.kd, VT.n, VT.s, VT.l]) (by rw [strB_size]; omega)⟩
      rw [lays_leaf rfl]
      show (bs.take o ++ form (bs.take o).length 4 1) ++ form (bs.take o ++ form (bs.take o).length 4 1).length (strB t2).size 4 ++ bytesS (strB t2) = _
      rw [hb1, tl L1, bytesS_strB R2, strB_size, F2]
    rw [if_neg k4] at h
    by_cases k6 : n1 = 6
    · rw [if_pos k6] at h
      subst k6
      have q2 := readR_num (bs := bs) (at_ := o1) (size := 4) hr
      obtain ⟨⟨n2, o2, e2⟩, E2⟩ : ∃ t, readR bs o1 4 = t := ⟨_, rfl⟩
      simp only [E2] at h q2
      have he2 : e2 = 0 := by
        by_cases q : e2 = 0
        · exact q
        · rw [if_pos q] at h; simp only [Prod.mk.injEq] at h; exact absurd h.2.2 q
      subst he2
      rw [if_neg (by simp)] at h
      by_cases h64 : n2 > 64
      · rw [if_pos h64] at h; simp at h
      rw [if_neg h64] at h
      obtain ⟨F2, L2⟩ := form_readR hr L1 E2
      have key : ∀ (n o o' : Nat) (ys : List VT), o ≤ bs.length → rdL (rdV bs f) n o = (ys, o', 0) → ys.foldl lays (bs.take o) = bs.take o' ∧ o' ≤ bs.length ∧ ys.length = n ∧ ∀ y ∈ ys, chkR (8 - f) y = 0 := by
        intro n
        induction n with
        | zero =>
          intro o o' ys ho h
          simp only [rdL, Prod.mk.injEq] at h
          obtain ⟨rfl, rfl, _⟩ := h
          exact ⟨rfl, ho, rfl, fun y hy => by cases hy⟩
        | succ n ihn =>
          intro o o' ys ho h
          rw [rdL] at h
          obtain ⟨⟨y3, o3, e3⟩, E3⟩ : ∃ t, rdV bs f o = t := ⟨_, rfl⟩
          simp only [E3] at h
          have he3 : e3 = 0 := by
            by_cases q : e3 = 0
            · exact q
            · rw [if_pos q] at h; simp only [Prod.mk.injEq] at h; exact absurd h.2.2 q
          subst he3
          rw [if_neg (by simp)] at h
          obtain ⟨⟨y4, o4, e4⟩, E4⟩ : ∃ t, rdL (rdV bs f) n o3 = t := ⟨_, rfl⟩
          simp only [E4] at h
          have he4 : e4 = 0 := by
            by_cases q : e4 = 0
            · exact q
            · rw [if_pos q] at h; simp only [Prod.mk.injEq] at h; exact absurd h.2.2 q
          subst he4
          rw [if_neg (by simp)] at h
          simp only [Prod.mk.injEq] at h
          obtain ⟨rfl, rfl, _⟩ := h
          obtain ⟨a1, a2, a3⟩ := ih o o3 y3 (by omega) ho E3
          obtain ⟨c1, c2, c3, c4⟩ := ihn o3 o4 y4 a2 E4
          refine ⟨by rw [List.foldl_cons, a1, c1], c2, by rw [List.length_cons, c3], fun y hy => ?_⟩
          rcases List.mem_cons.1 hy with rfl | hy
          · exact a3
          · exact c4 y hy
      obtain ⟨⟨ys, o5, e5⟩, E5⟩ : ∃ t, rdL (rdV bs f) n2.toNat o2 = t := ⟨_, rfl⟩
      simp only [E5] at h
      have he5 : e5 = 0 := by
        by_cases q : e5 = 0
        · exact q
        · rw [if_pos q] at h; simp only [Prod.mk.injEq] at h; exact absurd h.2.2 q
      subst he5
      rw [if_neg (by simp)] at h
      simp only [Prod.mk.injEq] at h
      obtain ⟨rfl, rfl, _⟩ := h
      obtain ⟨c1, c2, c3, c4⟩ := key _ _ _ _ L2 E5
      have hyl : ((ys.length : Nat) : Int) = n2 := by omega
      refine ⟨?_, c2, ?_⟩
      · rw [lays_eq]
        have : form1 (bs.take o) (.mk 6 0 ByteArray.empty none 0 ys) = bs.take o2 := by
          show (bs.take o ++ form (bs.take o).length 6 1) ++ form (bs.take o ++ form (bs.take o).length 6 1).length ys.length 4 = _
          rw [hb1, tl L1, hyl, F2]
        rw [this]
        exact c1
      · have hfm : formB (.mk 6 0 ByteArray.empty none 0 ys) = true := by simp [formB, VT.kd, VT.n, VT.s, noS_E]
        have h1 : chk1 (8 - ((f + 1 : Nat) : Int)) (.mk 6 0 ByteArray.empty none 0 ys) = 0 := by
          rw [chk1, if_neg (by omega), if_neg (by simp [hfm]), if_neg (by simp only [VT.s]; decide), if_neg (by simp only [VT.l]; omega)]
        rw [chkR_eq, if_neg (fun q => q h1), dn_succ (by omega) (by omega)]
        refine nz_none fun e he => ?_
        obtain ⟨y, hy, rfl⟩ := List.mem_map.1 he
        rw [show (8 - ((f + 1 : Nat) : Int) + 1) = 8 - (f : Int) by omega]
        exact c4 y hy
    · rw [if_neg k6] at h
      simp at h

/-- What was laid is read as it was. -/
theorem dec_enc {x : VT} (hc : chkR 0 x = 0) (hI : VIn x) : ∃ y, decF (encV x) = (y, 0) ∧ er y = er x := by
  obtain ⟨y, e, h⟩ := rd_lays x 8 0 [] [] rfl (by decide) hc hI
  rw [List.append_nil, ← encV_lays] at e
  refine ⟨y, ?_, h⟩
  have e : rdV (encV x) 8 0 = (y, (encV x).length, 0) := e
  rw [decF, e]
  simp
/-- What was read has the form that it was read of. -/
theorem enc_dec {bs : List Int} (hr : ∀ b ∈ bs, 0 ≤ b ∧ b ≤ 255) {y : VT} (h : decF bs = (y, 0)) : encV y = bs ∧ chkR 0 y = 0 := by
  unfold decF at h
  obtain ⟨⟨z, o, e⟩, E⟩ : ∃ t, rdV bs 8 0 = t := ⟨_, rfl⟩
  simp only [E] at h
  split at h
  · rename_i he
    simp only [Prod.mk.injEq] at h
    exact absurd h.2 he
  · rename_i he
    have he : e = 0 := by simpa using he
    subst he
    split at h
    · simp at h
    · simp only [Prod.mk.injEq, and_true] at h
      subst h
      obtain ⟨h1, h2, h3⟩ := lays_rd hr 8 0 o z (by decide) (Nat.zero_le _) E
      rw [List.take_zero, ← encV_lays, List.take_of_length_le (by omega)] at h1
      exact ⟨h1, h3⟩
/-- Of values that may be, one has the other's form just if they are one. -/
theorem enc_inj {x y : VT} (hx : chkR 0 x = 0) (hy : chkR 0 y = 0) (hI : VIn x) (hJ : VIn y) : er x = er y ↔ encV x = encV y := by
  constructor
  · exact encV_same
  · intro e
    obtain ⟨a, h1, h2⟩ := dec_enc hx hI
    obtain ⟨b, h3, h4⟩ := dec_enc hy hJ
    rw [e, h3] at h1
    simp only [Prod.mk.injEq, and_true] at h1
    rw [← h2, ← h4, h1]
end Go.Proofs.Ytmecgkeplkchcaa
