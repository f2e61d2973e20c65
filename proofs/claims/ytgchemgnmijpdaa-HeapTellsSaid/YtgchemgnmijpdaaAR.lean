/- The document's arena: its calls. No conditions. -/
import Derived.Test.YtgchemgnmijpdaaATY
set_option linter.unusedVariables false
set_option linter.unusedSimpArgs false
namespace Go.Proofs.Ytgchemgnmijpdaa
open Go.Sp Go.RowKit

def refF (y : Spot Int) : List Value := [.int .i64 y.x, .int .u32 y.g, .int .i64 y.st]
theorem refF_len (y : Spot Int) : (refF y).length = 3 := rfl
theorem refF_one (y : Spot Int) : ∀ u ∈ refF y, u.oneCell' = true := by simp [refF, Value.oneCell']
def RAr (a : Nat) (s : AS Int) : HP := ex fun p => ex fun l => ex fun c => ex fun q => ex fun m => ex fun d =>
  blk a #[.int .i64 s.most, .int .u32 s.first, .slice p l c, .slice q m d] T_tenonref02_Arena * (tab T_tenonref02_Spot 3 refF p l c s.sp * tab T_int 1 fNat q m d s.fr)
theorem RAr.open_ {w₀ w : World} {F : HP} {a : Nat} {s : AS Int} (h : Sat w₀ (RAr a s * F) w) : ∃ p c q d, Sat w₀ (blk a #[.int .i64 s.most, .int .u32 s.first, .slice p s.sp.length c, .slice q s.fr.length d] T_tenonref02_Arena * (tab T_tenonref02_Spot 3 refF p s.sp.length c s.sp * (tab T_int 1 fNat q s.fr.length d s.fr * F))) w := by
  obtain ⟨p, h⟩ := Sat.ex h
  obtain ⟨l, h⟩ := Sat.ex h
  obtain ⟨c, h⟩ := Sat.ex h
  obtain ⟨q, h⟩ := Sat.ex h
  obtain ⟨m, h⟩ := Sat.ex h
  obtain ⟨d, h⟩ := Sat.ex h
  have h := h.perm (B := blk a #[.int .i64 s.most, .int .u32 s.first, .slice p l c, .slice q m d] T_tenonref02_Arena * (tab T_tenonref02_Spot 3 refF p l c s.sp * (tab T_int 1 fNat q m d s.fr * F))) (by ac_rfl)
  have e1 := tab_len refF_len (by decide) h.right.left
  have e2 := tab_len fNat_len (by decide) h.right.right.left
  subst e1 e2
  exact ⟨p, c, q, d, h⟩
theorem RAr.shut {w₀ w : World} {F : HP} {a l m : Nat} {most first : Int} {sp : List (Spot Int)} {fr : List Nat} {cnt : Nat} {p q : Option Addr} {c d : Nat}
    (h : Sat w₀ (blk a #[.int .i64 most, .int .u32 first, .slice p l c, .slice q m d] T_tenonref02_Arena * (tab T_tenonref02_Spot 3 refF p l c sp * (tab T_int 1 fNat q m d fr * F))) w) : Sat w₀ (RAr a ⟨most, first, sp, fr, cnt⟩ * F) w :=
  Sat.to_ex p (Sat.to_ex l (Sat.to_ex c (Sat.to_ex q (Sat.to_ex m (Sat.to_ex d (h.perm (by ac_rfl)))))))

theorem ref_New_ok {w₀ w : World} {F : HP} {most first : Int} (h : Sat w₀ F w) (h0 : 1 ≤ most) (h1 : most ≤ 65536) (h2 : first ≠ 0) :
    call Try.prog fn_tenonref02_New #[.int .i64 most, .int .u32 first] w fun v w' => ∃ a, v = .pointer (some ⟨a, 0, none⟩) ∧ Sat w₀ (RAr a ⟨most, first, [], [], 0⟩ * F) w' := by
  apply tenonref02_New_call
  unfold tenonref02_New
  exact br_false (by simp; omega) <| br_false (by simp; omega) <| br_false (by simp; exact h2) <| new_ok h fun b w2 h2 => ⟨b, rfl, RAr.shut (l := 0) (m := 0) ((tab_nil T_tenonref02_Spot 3 refF (tab_nil T_int 1 fNat h2)).perm (by ac_rfl))⟩
theorem ref_New_no {most first : Int} (h0 : most < 1 ∨ most > 65536 ∨ first = 0) :
    PureCall Try.prog fn_tenonref02_New #[.int .i64 most, .int .u32 first] (.pointer none) := by
  intro w
  apply tenonref02_New_call
  unfold tenonref02_New
  refine br_dec (fun _ => ⟨rfl, rfl⟩) fun h1 => br_dec (fun _ => ⟨rfl, rfl⟩) fun h2 => ?_
  have : first = 0 := by omega
  exact br_true (by simp [this]) ⟨rfl, rfl⟩
theorem ref_Handle_ok {i : Nat} {g : Int} (hi : i < 4294967295) (h0 : 0 ≤ g) (h1 : g ≤ 4294967295) : PureCall Try.prog fn_tenonref02_Handle #[.int .i64 i, .int .u32 g] (.int .u64 (hd i g)) := by
  intro w
  apply tenonref02_Handle_call
  unfold tenonref02_Handle
  exact arith_u64 (by omega) (by omega) <| arith_u64 (by omega) (by omega) <| arith_u64 (by omega) (by omega) <| arith_u64 (by omega) (by omega) <| arith_u64 (by omega) (by omega) ⟨rfl, rfl⟩
theorem ref_At_ok {w₀ w : World} {F : HP} {a : Nat} {s : AS Int} {h : Int} (hh : Sat w₀ (RAr a s * F) w) (hs : AOk s) :
    call Try.prog fn_tenonref02_Arena_At #[.pointer (some ⟨a, 0, none⟩), .int .u64 h] w fun v w' => w' = w ∧ v = .int .i64 (match find s h with | some i => (i : Int) | none => -1) := by
  apply tenonref02_Arena_At_call
  unfold tenonref02_Arena_At
  obtain ⟨p, c, q, d, hh⟩ := RAr.open_ hh
  have hl := hs.len
  have hm := hs.most1
  have hT := hh.right.left
  have hc : w.cell? ⟨a, 2, none⟩ = some (.slice p s.sp.length c) := hh.left.cell (i := 2) rfl
  refine ⟨fun i w' n => 0 ≤ i ∧ i ≤ s.sp.length ∧ n = s.sp.length - i.toNat ∧ (∀ j, find s h = some j → i ≤ j) ∧ w' = w, ⟨_, by omega, by omega, rfl, fun j _ => by omega, rfl⟩, ?_⟩
  rintro u i w1 n ⟨h0, h1, rfl, hj, rfl⟩
  refine nn_ok <| ldS_ok hc <| br_dec (fun hlt => ?_) (fun hge => ?_)
  · obtain ⟨y, hy⟩ : ∃ y, s.sp[i.toNat]? = some y := ⟨s.sp[i.toNat]'(by omega), by simp⟩
    have hgy := hs.g y (List.mem_of_getElem? hy)
    obtain ⟨k, rfl⟩ : ∃ k : Nat, i = k := ⟨i.toNat, by omega⟩
    rw [Int.toNat_natCast] at hy
    have hy' : s.sp[(k : Int).toNat]? = some y := by rw [Int.toNat_natCast]; exact hy
    have next : (find s h ≠ some k) → arith .i64 ((k : Int) + 1) fun n18 => ∃ m19, m19 < s.sp.length - (k : Int).toNat ∧ (0 ≤ n18 ∧ n18 ≤ s.sp.length ∧ m19 = s.sp.length - n18.toNat ∧ (∀ j : Nat, find s h = some j → n18 ≤ j) ∧ w1 = w1) := by
      intro hne
      refine arith_i64 (by omega) (by omega) ⟨_, by omega, by omega, by omega, rfl, fun j hjs => ?_, rfl⟩
      have := hj j hjs
      have : j ≠ k := fun e => hne (e ▸ hjs)
      omega
    refine nn_ok <| ldS_ok hc <| tab_idx refF_len hT (by decide) h0 hy' fun g hg => ldI_ok (tab_cell refF_len (j := 2) hT hg hy' (by decide) rfl) <| br_split (fun he => ?_) (fun hne => ?_)
    · have he : y.st = 1 := by simpa using he
      refine nn_ok <| ldS_ok hc <| tab_idx refF_len hT (by decide) h0 hy' fun g hg => ldI_ok (tab_cell refF_len (j := 1) hT hg hy' (by decide) rfl) <| call_pure (ref_Handle_ok (i := k) (g := y.g) (by omega) (by omega) (by omega)) <| asI_ok <| br_split (fun he2 => ?_) (fun hne2 => ?_)
      · have he2 : hd k y.g = h := by simpa using he2
        rw [(find_iff hs).2 ⟨y, hy, he, he2.symm⟩]
        exact ⟨rfl, rfl⟩
      · have hne2 : hd k y.g ≠ h := by simpa using hne2
        refine next fun hf => ?_
        obtain ⟨z, hz, _, e⟩ := (find_iff hs).1 hf
        rw [hy] at hz
        cases hz
        exact hne2 e.symm
    · have hne : y.st ≠ 1 := by simpa using hne
      refine next fun hf => ?_
      obtain ⟨z, hz, h2, e⟩ := (find_iff hs).1 hf
      rw [hy] at hz
      cases hz
      exact hne h2
  · refine ⟨rfl, ?_⟩
    cases hf : find s h with
    | none => rfl
    | some j =>
      have := hj j hf
      obtain ⟨z, hz, _, e⟩ := (find_iff hs).1 hf
      have := (List.getElem?_eq_some_iff.1 hz).1
      omega
theorem refsTy : SliceTy Try.prog T_sl_tenonref02_Spot T_tenonref02_Spot (.agg #[.int .i64 0, .int .u32 0, .int .i64 0]) 3 24 := ⟨by kernel_rfl, by kernel_rfl, rfl, by decide⟩
theorem ref_Put_ok {w₀ w : World} {F : HP} {a : Nat} {s : AS Int} {x : Int} (h : Sat w₀ (RAr a s * F) w) (hs : AOk s) :
    call Try.prog fn_tenonref02_Arena_Put #[.pointer (some ⟨a, 0, none⟩), .int .i64 x] w fun v w' => v = .int .u64 (put s x).2.1 ∧ Sat w₀ (RAr a (put s x).1 * F) w' := by
  apply tenonref02_Arena_Put_call
  unfold tenonref02_Arena_Put
  obtain ⟨p, c, q, d, h⟩ := RAr.open_ h
  have hl := hs.len
  have hm := hs.most1
  have hb := hs.bound
  refine nn_ok <| ldS_ok (h.left.cell (i := 3) rfl) <| nn_ok <| ldS_ok (h.left.cell (i := 2) rfl) ?_
  rcases put_cases hs x with ⟨fr, i, y, hfr, hy, hst, hput⟩ | ⟨hfr, hfull, hput⟩ | ⟨hfr, hfull, hput⟩
  · have hlt := (List.getElem?_eq_some_iff.1 hy).1
    have hg := hs.g y (List.mem_of_getElem? hy)
    have hfl : s.fr.length = fr.length + 1 := by simp [hfr]
    have hlast : s.fr[((s.fr.length : Int) - 1).toNat]? = some i := by
      have e : ((s.fr.length : Int) - 1).toNat = fr.length := by omega
      rw [e, hfr]
      simp
    have hy' : s.sp[(i : Int).toNat]? = some y := by rw [Int.toNat_natCast]; exact hy
    refine br_true (by simp; omega) <| nn_ok <| ldS_ok (h.left.cell (i := 3) rfl) <| arith_i64 (by omega) (by omega) <| tab_idx fNat_len h.right.right.left (by decide) (by omega) hlast fun g hg => ldI_ok (tab_cell fNat_len (j := 0) h.right.right.left hg hlast (by decide) rfl) <| nn_ok <| ldS_ok (h.left.cell (i := 3) rfl) <| arith_i64 (by omega) (by omega) ?_
    have h3 := h.perm (B := tab T_int 1 fNat q s.fr.length d s.fr * (blk a #[.int .i64 s.most, .int .u32 s.first, .slice p s.sp.length c, .slice q s.fr.length d] T_tenonref02_Arena * (tab T_tenonref02_Spot 3 refF p s.sp.length c s.sp * F))) (by ac_rfl)
    refine slc_own (h3 : Sat w₀ (own T_int 1 q s.fr.length d (s.fr.flatMap fNat) * _) w) (by omega) (by omega) ?_
    have e : ((s.fr.length : Int) - 1).toNat = fr.length := by omega
    rw [e]
    have h4 := tab_cut fNat_len h3 (show fr.length ≤ s.fr.length by omega)
    rw [hfr, List.take_left' rfl] at h4
    refine nn_ok <| st_ok (i := 3) h4.p1 (by simp) fun w5 h5 => ?_
    have h5 : Sat w₀ (blk a #[.int .i64 s.most, .int .u32 s.first, .slice p s.sp.length c, .slice q fr.length d] T_tenonref02_Arena * (tab T_tenonref02_Spot 3 refF p s.sp.length c s.sp * (tab T_int 1 fNat q fr.length d fr * F))) w5 := by
      refine h5.perm ?_
      show blk a #[.int .i64 s.most, .int .u32 s.first, .slice p s.sp.length c, .slice q fr.length d] T_tenonref02_Arena * _ = _
      ac_rfl
    refine nn_ok <| ldS_ok (h5.left.cell (i := 2) rfl) <| tab_idx refF_len h5.right.left (by decide) (by omega) hy' fun g hg => ?_
    rw [Int.toNat_natCast]
    refine tab_st refF_len (y' := ⟨x, y.g, y.st⟩) h5.p1 hg hy (by decide) rfl fun w6 h6 => ?_
    have hy6 : (s.sp.set i ⟨x, y.g, y.st⟩)[(i : Int).toNat]? = some (⟨x, y.g, y.st⟩ : Spot Int) := by simp [hlt]
    refine nn_ok <| ldS_ok (h6.right.left.cell (i := 2) rfl) <| tab_idx refF_len h6.left (by decide) (by omega) hy6 fun g hg => ?_
    rw [Int.toNat_natCast] at hy6 ⊢
    refine tab_st refF_len (y' := ⟨x, y.g, 1⟩) h6 hg hy6 (by decide) rfl fun w7 h7 => ?_
    rw [List.set_set] at h7
    have hy7 : (s.sp.set i ⟨x, y.g, 1⟩)[(i : Int).toNat]? = some (⟨x, y.g, 1⟩ : Spot Int) := by simp [hlt]
    refine nn_ok <| ldS_ok (h7.right.left.cell (i := 2) rfl) <| tab_idx refF_len h7.left (by decide) (by omega) hy7 fun g hg => ldI_ok (tab_cell refF_len (j := 1) h7.left hg hy7 (by decide) rfl) <| call_pure (ref_Handle_ok (i := i) (g := y.g) (by omega) (by omega) (by omega)) <| asI_ok ?_
    rw [hput]
    exact ⟨rfl, RAr.shut (l := s.sp.length) (m := fr.length) (p := p) (q := q) (c := c) (d := d) h7.p1⟩
  · rw [hput]
    exact br_false (by simp [hfr]) <| nn_ok <| ldI_ok (h.left.cell (i := 0) rfl) <| br_true (by simp; omega) ⟨rfl, RAr.shut h⟩
  · have e0 : s.fr.length = 0 := by rw [hfr]; rfl
    rw [e0, hfr] at h
    rw [e0]
    have hd := h.drew
    have hf0 := hs.first0
    have hf1 := hs.first1
    refine br_false (by simp) <| nn_ok <| ldI_ok (h.left.cell (i := 0) rfl) <| br_false (by simp; omega) <| nn_ok <| ldS_ok (hd.left.cell (i := 2) rfl) <| nn_ok <| ldI_ok (hd.left.cell (i := 1) rfl) ⟨rfl, new_ok hd fun k w3 h3 => ?_⟩
    refine tab_app refsTy refF_len (by decide) refF_one (x := ⟨x, s.first, 1⟩) (h3.perm (B := _ * (tab T_tenonref02_Spot 3 refF p s.sp.length c s.sp * (blk a #[.int .i64 s.most, .int .u32 s.first, .slice p s.sp.length c, .slice q 0 d] T_tenonref02_Arena * (tab T_int 1 fNat q 0 d [] * F)))) (by ac_rfl)) rfl (by simp only [maxLen]; omega) (by omega) fun p' c' w4 h4 => ?_
    refine nn_ok <| st_ok (i := 2) h4.p1 (by simp) fun w5 h5 => ?_
    refine nn_ok <| ldI_ok (h5.left.cell (i := 1) rfl) <| call_pure (ref_Handle_ok (i := s.sp.length) (g := s.first) (by omega) (by omega) (by omega)) <| asI_ok ?_
    rw [hput]
    exact ⟨rfl, RAr.shut (l := s.sp.length + 1) (m := 0) (p := p') (q := q) (c := c') (d := d) h5⟩
theorem ref_Drop_ok {w₀ w : World} {F : HP} {a : Nat} {s : AS Int} {i : Nat} {y : Spot Int} (h : Sat w₀ (RAr a s * F) w) (hs : AOk s) (hy : s.sp[i]? = some y) :
    call Try.prog fn_tenonref02_Arena_Drop #[.pointer (some ⟨a, 0, none⟩), .int .i64 i] w fun v w' => v = .tuple #[] ∧ Sat w₀ (RAr a (dropS 0 s i) * F) w' := by
  apply tenonref02_Arena_Drop_call
  unfold tenonref02_Arena_Drop
  obtain ⟨p, c, q, d, h⟩ := RAr.open_ h
  have hlt := (List.getElem?_eq_some_iff.1 hy).1
  have hgy := hs.g y (List.mem_of_getElem? hy)
  have hb := hs.bound
  have hl := hs.len
  have hm := hs.most1
  have hy' : s.sp[(i : Int).toNat]? = some y := by rw [Int.toNat_natCast]; exact hy
  refine nn_ok <| ldS_ok (h.left.cell (i := 2) rfl) <| tab_idx refF_len h.right.left (by decide) (by omega) hy' fun g hg => ?_
  rw [Int.toNat_natCast]
  refine tab_st refF_len (y' := ⟨0, y.g, y.st⟩) h.p1 hg hy (by decide) rfl fun w1 h1 => ?_
  have hyi : ∀ z : Spot Int, (s.sp.set i z)[(i : Int).toNat]? = some z := fun z => by simp [hlt]
  have hyn : ∀ z : Spot Int, (s.sp.set i z)[i]? = some z := fun z => by simp [hlt]
  refine nn_ok <| ldS_ok (h1.right.left.cell (i := 2) rfl) <| tab_idx refF_len h1.left (by decide) (by omega) (hyi _) fun g hg => ldI_ok (tab_cell refF_len (j := 1) h1.left hg (hyi _) (by decide) rfl) <| br_split (fun he => ?_) (fun hne => ?_)
  · have he : y.g = 4294967295 := by simpa using he
    refine nn_ok <| ldS_ok (h1.right.left.cell (i := 2) rfl) <| tab_idx refF_len h1.left (by decide) (by omega) (hyi _) fun g hg => ?_
    rw [Int.toNat_natCast]
    refine tab_st refF_len (y' := ⟨0, y.g, 2⟩) h1 hg (hyn _) (by decide) rfl fun w2 h2 => ⟨rfl, ?_⟩
    rw [List.set_set] at h2
    rcases drop_cases (z := (0 : Int)) hy with ⟨hn, _⟩ | ⟨_, hd⟩
    · omega
    · rw [hd]
      exact RAr.shut h2.p1
  · have hne : y.g ≠ 4294967295 := by simpa using hne
    refine nn_ok <| ldS_ok (h1.right.left.cell (i := 2) rfl) <| tab_idx refF_len h1.left (by decide) (by omega) (hyi _) fun g hg => ?_
    rw [Int.toNat_natCast]
    refine tab_st refF_len (y' := ⟨0, y.g, 0⟩) h1 hg (hyn _) (by decide) rfl fun w2 h2 => ?_
    rw [List.set_set] at h2
    refine nn_ok <| ldS_ok (h2.right.left.cell (i := 2) rfl) <| tab_idx refF_len h2.left (by decide) (by omega) (hyi _) fun g hg => ldI_ok (tab_cell refF_len (j := 1) h2.left hg (hyi _) (by decide) rfl) <| arith_u32 (by dsimp only; omega) (by dsimp only; omega) <| tab_idx refF_len h2.left (by decide) (by omega) (hyi _) fun g hg => ?_
    rw [Int.toNat_natCast]
    refine tab_st refF_len (y' := ⟨0, y.g + 1, 0⟩) h2 hg (hyn _) (by decide) rfl fun w3 h3 => ?_
    rw [List.set_set] at h3
    refine nn_ok <| ldS_ok (h3.right.left.cell (i := 3) rfl) <| new_ok h3 fun k w4 h4 => ?_
    refine tab_app intsTy fNat_len (by decide) fNat_one (x := i) (h4.perm (B := _ * (tab T_int 1 fNat q s.fr.length d s.fr * (blk a #[.int .i64 s.most, .int .u32 s.first, .slice p s.sp.length c, .slice q s.fr.length d] T_tenonref02_Arena * (tab T_tenonref02_Spot 3 refF p s.sp.length c (s.sp.set i ⟨0, y.g + 1, 0⟩) * F)))) (by ac_rfl)) rfl (by simp only [maxLen]; omega) (by omega) fun p' c' w7 h7 => ?_
    refine nn_ok <| st_ok (i := 3) h7.p1 (by simp) fun w8 h8 => ⟨rfl, ?_⟩
    rcases drop_cases (z := (0 : Int)) hy with ⟨_, hd⟩ | ⟨hn, _⟩
    · rw [hd]
      exact RAr.shut (l := s.sp.length) (m := s.fr.length + 1) (p := p) (q := p') (c := c) (d := c') (h8.perm (by
        show blk a #[.int .i64 s.most, .int .u32 s.first, .slice p s.sp.length c, .slice p' (s.fr.length + 1) c'] T_tenonref02_Arena * _ = _
        ac_rfl))
    · omega
theorem ref_All_ok {w₀ w : World} {F : HP} {a : Nat} {s : AS Int} (h : Sat w₀ (RAr a s * F) w) (hs : AOk s) :
    call Try.prog fn_tenonref02_Arena_All #[.pointer (some ⟨a, 0, none⟩)] w fun v w' => ∃ p l c, v = .slice p l c ∧ l = s.cnt ∧ Sat w₀ (tab T_uint64 1 fU64 p l c (allFrom 0 s.sp) * (RAr a s * F)) w' := by
  apply tenonref02_Arena_All_call
  unfold tenonref02_Arena_All
  obtain ⟨p, c, q, d, h⟩ := RAr.open_ h
  have hl := hs.len
  have hm := hs.most1
  refine ⟨fun p1 l1 c1 i w n => 0 ≤ i ∧ i ≤ s.sp.length ∧ n = s.sp.length - i.toNat ∧ l1 ≤ i ∧ Sat w₀ (tab T_uint64 1 fU64 p1 l1 c1 (allFrom 0 (s.sp.take i.toNat)) * (blk a #[.int .i64 s.most, .int .u32 s.first, .slice p s.sp.length c, .slice q s.fr.length d] T_tenonref02_Arena * (tab T_tenonref02_Spot 3 refF p s.sp.length c s.sp * (tab T_int 1 fNat q s.fr.length d s.fr * F)))) w,
    ⟨_, by omega, by omega, rfl, by omega, tab_nil _ _ _ h⟩, ?_⟩
  rintro u p1 l1 c1 i w1 n ⟨h0, h1, rfl, h2, h3⟩
  refine nn_ok <| ldS_ok (h3.right.left.cell (i := 2) rfl) <| br_dec (fun hlt => ?_) (fun hge => ?_)
  · obtain ⟨y, hy⟩ : ∃ y, s.sp[i.toNat]? = some y := ⟨s.sp[i.toNat]'(by omega), by simp⟩
    have hgy := hs.g y (List.mem_of_getElem? hy)
    have e1 : (i + 1).toNat = i.toNat + 1 := by omega
    have e2 : s.sp.take (i + 1).toNat = s.sp.take i.toNat ++ [y] := by rw [e1, List.take_add_one, hy]; rfl
    have e3 : (s.sp.take i.toNat).length = i.toNat := by rw [List.length_take]; omega
    have hT := h3.right.right.left
    refine nn_ok <| ldS_ok (h3.right.left.cell (i := 2) rfl) <| tab_idx refF_len hT (by decide) h0 hy fun g hg => ldI_ok (tab_cell refF_len (j := 2) hT hg hy (by decide) rfl) <| br_split (fun he => ?_) (fun hne => ?_)
    · have he : y.st = 1 := by simpa using he
      obtain ⟨k, rfl⟩ : ∃ k : Nat, i = k := ⟨i.toNat, by omega⟩
      rw [Int.toNat_natCast] at e3
      refine nn_ok <| ldS_ok (h3.right.left.cell (i := 2) rfl) <| tab_idx refF_len hT (by decide) h0 hy fun g hg => ldI_ok (tab_cell refF_len (j := 1) hT hg hy (by decide) rfl) <| call_pure (ref_Handle_ok (i := k) (g := y.g) (by omega) (by omega) (by omega)) <| asI_ok <| new_ok h3 fun b w4 h4 => ?_
      refine tab_app u64sTy fU64_len (by decide) fU64_one (x := hd k y.g) h4 rfl (by simp only [maxLen]; omega) (by omega) fun p' c' w5 h5 => arith_i64 (by omega) (by omega) ⟨_, by omega, by omega, by omega, rfl, by omega, ?_⟩
      rw [e2, allFrom_append, if_pos he, Int.toNat_natCast, e3, Nat.zero_add]
      exact h5
    · have hne : y.st ≠ 1 := by simpa using hne
      refine arith_i64 (by omega) (by omega) ⟨_, by omega, by omega, by omega, rfl, by omega, ?_⟩
      rw [e2, allFrom_append, if_neg hne, List.append_nil]
      exact h3
  · have hi : i = s.sp.length := by omega
    subst hi
    rw [Int.toNat_natCast, List.take_length] at h3
    refine ⟨p1, l1, c1, rfl, ?_, (RAr.shut (h3.p1 |> fun h => h.right.perm rfl |> fun _ => h3.perm (B := blk a #[.int .i64 s.most, .int .u32 s.first, .slice p s.sp.length c, .slice q s.fr.length d] T_tenonref02_Arena * (tab T_tenonref02_Spot 3 refF p s.sp.length c s.sp * (tab T_int 1 fNat q s.fr.length d s.fr * (tab T_uint64 1 fU64 p1 l1 c1 (allFrom 0 s.sp) * F)))) (by ac_rfl)) : Sat w₀ (RAr a s * (tab T_uint64 1 fU64 p1 l1 c1 (allFrom 0 s.sp) * F)) w1).perm (by ac_rfl)⟩
    have := tab_len fU64_len (by decide) h3.left
    rw [allFrom_length, ← hs.cnt] at this
    exact this.symm
theorem tenonref01_Pick_ok (x n : Int) (h0 : -9223372036854775808 ≤ x) (h1 : x ≤ 9223372036854775807) (h2 : -9223372036854775808 ≤ n) (h3 : n ≤ 9223372036854775807) :
    ∃ k : Int, PureCall Try.prog fn_tenonref01_Pick #[.int .i64 x, .int .i64 n] (.int .i64 k) ∧ 0 ≤ k ∧ (1 ≤ n → k < n) ∧ (n < 1 → k = 0) := by
  by_cases hn : n < 1
  · refine ⟨0, fun w => ?_, by omega, by omega, fun _ => rfl⟩
    apply tenonref01_Pick_call
    unfold tenonref01_Pick
    exact br_true (by simpa using hn) ⟨rfl, rfl⟩
  · have hb : -n < x.tmod n ∧ x.tmod n < n := by
      have h4 := Int.tmod_lt_of_pos x (show 0 < n by omega)
      have h5 : -n < x.tmod n := by
        by_cases hx : 0 ≤ x
        · have := Int.tmod_nonneg n hx
          omega
        · have h6 := Int.tmod_lt_of_pos (-x) (show 0 < n by omega)
          rw [Int.neg_tmod] at h6
          omega
      exact ⟨h5, h4⟩
    by_cases hneg : x.tmod n < 0
    · refine ⟨x.tmod n + n, fun w => ?_, by omega, by omega, by omega⟩
      apply tenonref01_Pick_call
      unfold tenonref01_Pick
      exact br_false (by simpa using hn) ⟨by omega, br_true (by simpa using hneg) <| arith_i64 (by omega) (by omega) ⟨rfl, rfl⟩⟩
    · refine ⟨x.tmod n, fun w => ?_, by omega, by omega, by omega⟩
      apply tenonref01_Pick_call
      unfold tenonref01_Pick
      exact br_false (by simpa using hn) ⟨by omega, br_false (by simpa using hneg) ⟨rfl, rfl⟩⟩

theorem SameLongs_ok {w : World} {p q : Option Addr} {l c m d : Nat} {xs ys : List Int} (hx : Rd w 1 p l (xs.flatMap fU64)) (hy : Rd w 1 q m (ys.flatMap fU64)) (hl : l ≤ 4611686018427387904) :
    Reads Try.prog fn_tenonref01_SameLongs #[.slice p l c, .slice q m d] w (.bool (decide (xs = ys))) := by
  apply tenonref01_SameLongs_call
  unfold tenonref01_SameLongs
  have el : xs.length = l := by have := hx.1; rw [flatU64, List.length_map] at this; omega
  have em : ys.length = m := by have := hy.1; rw [flatU64, List.length_map] at this; omega
  refine br_split (fun hne => ?_) (fun heq => ?_)
  · refine ⟨?_, Same.refl w⟩
    rw [decide_eq_false]
    intro e
    subst e
    simp [← el, em] at hne
  · have hlm' : (l : Int) = m := by simpa using heq
    have hlm : l = m := by omega
    refine ⟨fun n w' k => 0 ≤ n ∧ n ≤ l ∧ k = l - n.toNat ∧ xs.take n.toNat = ys.take n.toNat ∧ Same w w', ⟨_, by omega, by omega, rfl, by simp, Same.refl w⟩, ?_⟩
    rintro u n w1 k ⟨h0, h1, rfl, he, hw⟩
    refine br_dec (fun hlt => ?_) (fun hge => ?_)
    · have hi : n.toNat < xs.length := by omega
      have hj : n.toNat < ys.length := by omega
      have hxi : (xs.flatMap fU64)[n.toNat]? = some (.int .u64 xs[n.toNat]) := by rw [flatU64]; simp [hi]
      have hyi : (ys.flatMap fU64)[n.toNat]? = some (.int .u64 ys[n.toNat]) := by rw [flatU64]; simp [hj]
      refine idx_ok hx h0 (by omega) fun a ha => ldI_ok (n := xs[n.toNat]) ?_ <| idx_ok hy h0 (by omega) fun b hb => ldI_ok (n := ys[n.toNat]) ?_ <| br_split (fun hne => ?_) (fun heq => ?_)
      · rw [hw.drew.cell, Nat.mul_one]; exact hx.get ha hxi
      · rw [hw.drew.cell, Nat.mul_one]; exact hy.get hb hyi
      · refine ⟨?_, hw.drew⟩
        rw [decide_eq_false]
        intro e
        subst e
        simp at hne
      · have heq : xs[n.toNat] = ys[n.toNat] := by simpa using heq
        refine arith_i64 (by omega) (by omega) ⟨_, by omega, by omega, by omega, rfl, ?_, hw.drew⟩
        rw [show (n + 1).toNat = n.toNat + 1 by omega, List.take_add_one, List.take_add_one, he]
        simp [hi, hj, heq]
    · refine ⟨?_, hw⟩
      rw [List.take_of_length_le (by omega), List.take_of_length_le (by omega)] at he
      rw [he]
      simp

end Go.Proofs.Ytgchemgnmijpdaa
