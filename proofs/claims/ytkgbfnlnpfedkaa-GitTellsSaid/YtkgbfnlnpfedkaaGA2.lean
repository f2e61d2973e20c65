/- Contracts of layer 2 (arena) at git's entries: putting, dropping, going over. No conditions. -/
import Derived.Test.YtkgbfnlnpfedkaaGA1
set_option linter.unusedVariables false
set_option linter.unusedSimpArgs false
set_option maxRecDepth 100000
namespace Go.Proofs.Ytkgbfnlnpfedkaa
open Go.Sp Go.RowKit

theorem arena_Put_ok {w₀ w : World} {F : HP} {a : Nat} {s : AS GE} {x : GE} (h : Sat w₀ (Ar a s * F) w) (hs : AOk s) :
    call Try.prog fn_arena_Arena_Put #[.pointer (some ⟨a, 0, none⟩), .agg (geF x).toArray] w fun v w' => v = .tuple #[.int .u64 (put s x).2.1, .int .i64 (put s x).2.2] ∧ Sat w₀ (Ar a (put s x).1 * F) w' := by
  apply arena_Arena_Put_call
  unfold arena_Arena_Put
  refine new_ok h fun k1 w0' h => ?_
  obtain ⟨p, c, q, d, h⟩ := Ar.open_ (h.p1)
  generalize hF' : blk k1 (geF x).toArray T_git_entry * F = F' at h
  have kx : ∀ {w A B C}, Sat w₀ (A * (B * (C * F'))) w → ∀ {K}, K (geF x).toArray → ldA (⟨k1, 0, none⟩ : Addr) 37 w K := by
    intro w A B C h K hk
    rw [← hF'] at h
    exact ldA_blk0 h.right.right.right (geF_size _) hk
  have fin : ∀ {w a s}, Sat w₀ (Ar a s * F') w → Sat w₀ (Ar a s * F) w := by
    intro w a s h
    rw [← hF'] at h
    exact h.p1.right
  have hl := hs.len
  have hm := hs.most1
  have hb := hs.bound
  refine br_false rfl <| nn_ok <| ldS_ok (h.left.cell (i := 2) rfl) ?_
  rcases put_cases hs x with ⟨fr, i, y, hfr, hy, hst, hput⟩ | ⟨hfr, hfull, hput⟩ | ⟨hfr, hfull, hput⟩
  · have hlt := (List.getElem?_eq_some_iff.1 hy).1
    have hg := hs.g y (List.mem_of_getElem? hy)
    have hfl : s.fr.length = fr.length + 1 := by simp [hfr]
    refine ⟨fun n w => n = (i : Int) ∧ ∃ q' d', Sat w₀ (blk a #[.int .i64 s.most, .int .u32 s.first, .slice p s.sp.length c, .slice q' fr.length d', .int .i64 s.cnt] T_arena_Arena_git_entry_ * (tab T_arena_spot_git_entry_ 39 spotF p s.sp.length c s.sp * (tab T_int 1 fNat q' fr.length d' fr * F'))) w, ?_, ?_⟩
    · refine nn_ok <| ldS_ok (h.left.cell (i := 3) rfl) <| br_true (by simp; omega) <| nn_ok <| ldS_ok (h.left.cell (i := 3) rfl) <| arith_i64 (by omega) (by omega) ?_
      have hlast : s.fr[((s.fr.length : Int) - 1).toNat]? = some i := by
        have e : ((s.fr.length : Int) - 1).toNat = fr.length := by omega
        rw [e, hfr]
        simp
      refine tab_idx fNat_len h.right.right.left (by decide) (by omega) hlast fun g hg => ldI_ok (tab_cell fNat_len (j := 0) h.right.right.left hg hlast (by decide) rfl) <| nn_ok <| ldS_ok (h.left.cell (i := 3) rfl) <| arith_i64 (by omega) (by omega) ?_
      have h3 := h.perm (B := tab T_int 1 fNat q s.fr.length d s.fr * (blk a #[.int .i64 s.most, .int .u32 s.first, .slice p s.sp.length c, .slice q s.fr.length d, .int .i64 s.cnt] T_arena_Arena_git_entry_ * (tab T_arena_spot_git_entry_ 39 spotF p s.sp.length c s.sp * F'))) (by ac_rfl)
      refine slc_own (h3 : Sat w₀ (own T_int 1 q s.fr.length d (s.fr.flatMap fNat) * _) w0') (by omega) (by omega) ?_
      have e : ((s.fr.length : Int) - 1).toNat = fr.length := by omega
      rw [e]
      have h4 := tab_cut fNat_len h3 (show fr.length ≤ s.fr.length by omega)
      rw [hfr, List.take_left' rfl] at h4
      refine nn_ok <| st_ok (i := 3) h4.p1 (by simp) fun w5 h5 => ⟨rfl, q, d, h5.perm ?_⟩
      show blk a #[.int .i64 s.most, .int .u32 s.first, .slice p s.sp.length c, .slice q fr.length d, .int .i64 s.cnt] T_arena_Arena_git_entry_ * _ = _
      ac_rfl
    · rintro u n w5 ⟨rfl, q', d', h5⟩
      have hy' : s.sp[(i : Int).toNat]? = some y := by rw [Int.toNat_natCast]; exact hy
      refine nn_ok <| ldS_ok (h5.left.cell (i := 2) rfl) <| tab_idx spotF_len h5.right.left (by decide) (by omega) hy' fun g hg => kx h5 ?_
      rw [Int.toNat_natCast]
      refine tab_stA spotF_len (o := 0) (n := 37) (y' := ⟨x, y.g, y.st⟩) h5.p1 hg hy (by decide) (geF_size _) (geF_oneA _) (spotF_setA _ _ _ _) fun w6 h6 => ?_
      refine tab_st spotF_len (y := ⟨x, y.g, y.st⟩) (y' := ⟨x, y.g, 1⟩) h6 hg (by simp [hlt]) (by decide) (spotF_set38 _ _ _ _ rfl) fun w7 h7 => ?_
      rw [List.set_set] at h7
      have h7 := h7.p1
      refine nn_ok <| ldI_ok (h7.left.cell (i := 4) rfl) <| arith_i64 (by omega) (by omega) <| nn_ok <| st_ok (i := 4) h7 (by simp) fun w8 h8 => ?_
      refine ldI_ok (tab_cell spotF_len (j := 37) (y := ⟨x, y.g, 1⟩) h8.right.left hg (by simp [hlt]) (by decide) (spotF_37 _)) <| call_pure (arena_handle_ok (i := i) (g := y.g) (by omega) (by omega) (by omega)) <| asI_ok ?_
      rw [hput]
      exact ⟨rfl, fin (Ar.shut (l := s.sp.length) (m := fr.length) (p := p) (q := q') (c := c) (d := d') h8)⟩
  · rw [hput]
    refine ⟨fun _ _ => False, ?_, fun _ _ _ h => h.elim⟩
    exact nn_ok <| ldS_ok (h.left.cell (i := 3) rfl) <| br_false (by simp [hfr]) <| nn_ok <| ldI_ok (h.left.cell (i := 0) rfl) <| br_true (by simp [hfull]) ⟨rfl, fin (Ar.shut h)⟩
  · have e0 : s.fr.length = 0 := by rw [hfr]; rfl
    refine ⟨fun n w => n = (s.sp.length : Int) ∧ ∃ p' c', Sat w₀ (blk a #[.int .i64 s.most, .int .u32 s.first, .slice p' (s.sp.length + 1) c', .slice q 0 d, .int .i64 s.cnt] T_arena_Arena_git_entry_ * (tab T_arena_spot_git_entry_ 39 spotF p' (s.sp.length + 1) c' (s.sp ++ [⟨ge0, s.first, 0⟩]) * (tab T_int 1 fNat q 0 d [] * F'))) w, ?_, ?_⟩
    · rw [e0, hfr] at h
      have hd := h.drew
      refine nn_ok <| ldS_ok (h.left.cell (i := 3) rfl) <| br_false (by simp) <| nn_ok <| ldI_ok (h.left.cell (i := 0) rfl) <| br_false (by simp; omega) <| nn_ok <| ldS_ok (hd.left.cell (i := 2) rfl) <| nn_ok <| ldI_ok (hd.left.cell (i := 1) rfl) ⟨rfl, new_ok hd fun k w3 h3 => ?_⟩
      refine tab_app spotsTy spotF_len (by decide) spotF_one (x := ⟨ge0, s.first, 0⟩) (h3.perm (B := _ * (tab T_arena_spot_git_entry_ 39 spotF p s.sp.length c s.sp * (blk a #[.int .i64 s.most, .int .u32 s.first, .slice p s.sp.length c, .slice q 0 d, .int .i64 s.cnt] T_arena_Arena_git_entry_ * (tab T_int 1 fNat q 0 d [] * F')))) (by ac_rfl)) rfl (by simp only [maxLen]; omega) (by omega) fun p' c' w4 h4 => ?_
      refine nn_ok <| st_ok (i := 2) h4.p1 (by simp) fun w5 h5 => ⟨rfl, p', c', ?_⟩
      exact h5
    · rintro u n w5 ⟨rfl, p', c', h5⟩
      have hy : (s.sp ++ [⟨ge0, s.first, 0⟩])[s.sp.length]? = some (⟨ge0, s.first, 0⟩ : Spot GE) := by simp
      have hy' : (s.sp ++ [⟨ge0, s.first, 0⟩])[(s.sp.length : Int).toNat]? = some (⟨ge0, s.first, 0⟩ : Spot GE) := by simp
      have hf0 := hs.first0
      have hf1 := hs.first1
      refine nn_ok <| ldS_ok (h5.left.cell (i := 2) rfl) <| tab_idx spotF_len h5.right.left (by decide) (by omega) hy' fun g hg => kx h5 ?_
      rw [Int.toNat_natCast]
      refine tab_stA spotF_len (o := 0) (n := 37) (y' := ⟨x, s.first, 0⟩) h5.p1 hg hy (by decide) (geF_size _) (geF_oneA _) (spotF_setA _ _ _ _) fun w6 h6 => ?_
      refine tab_st spotF_len (y := ⟨x, s.first, 0⟩) (y' := ⟨x, s.first, 1⟩) h6 hg (by simp) (by decide) (spotF_set38 _ _ _ _ rfl) fun w7 h7 => ?_
      rw [List.set_set] at h7
      have h7 := h7.p1
      refine nn_ok <| ldI_ok (h7.left.cell (i := 4) rfl) <| arith_i64 (by omega) (by omega) <| nn_ok <| st_ok (i := 4) h7 (by simp) fun w8 h8 => ?_
      refine ldI_ok (tab_cell spotF_len (j := 37) (y := ⟨x, s.first, 1⟩) h8.right.left hg (by simp) (by decide) (spotF_37 _)) <| call_pure (arena_handle_ok (i := s.sp.length) (g := s.first) (by omega) (by omega) (by omega)) <| asI_ok ?_
      rw [hput]
      refine ⟨rfl, fin (Ar.shut (l := s.sp.length + 1) (m := 0) (p := p') (q := q) (c := c') (d := d) ?_)⟩
      have e : (s.sp ++ [(⟨ge0, s.first, 0⟩ : Spot GE)]).set s.sp.length (⟨x, s.first, 1⟩ : Spot GE) = s.sp ++ [⟨x, s.first, 1⟩] := by simp
      rw [← e]
      exact h8

theorem arena_Drop_ok {w₀ w : World} {F : HP} {a : Nat} {s : AS GE} {h : Int} (hh : Sat w₀ (Ar a s * F) w) (hs : AOk s) (h0 : 0 ≤ h) (h1 : h ≤ 18446744073709551615) :
    call Try.prog fn_arena_Arena_Drop #[.pointer (some ⟨a, 0, none⟩), .int .u64 h] w fun v w' => v = .tuple #[.agg (geF (dropR ge0 s h).2.1).toArray, .int .i64 (dropR ge0 s h).2.2] ∧ Sat w₀ (Ar a (dropR ge0 s h).1 * F) w' := by
  apply arena_Arena_Drop_call
  unfold arena_Arena_Drop
  refine new_ok hh fun k1 w1 h2 => new_ok h2 fun k2 w2 h3 => ?_
  obtain ⟨p, c, q, d, h3⟩ := Ar.open_ (h3.perm (B := Ar a s * (blk k2 (geF ge0).toArray T_git_entry * (blk k1 (geF ge0).toArray T_git_entry * F))) (by
    show blk k2 (geF ge0).toArray T_git_entry * (blk k1 (geF ge0).toArray T_git_entry * _) = _
    ac_rfl))
  refine call_mono (arena_find_ok h3 h0 h1) ?_
  cases hf : find s h with
  | none =>
    rintro _ w3 ⟨rfl, rfl⟩
    rw [dropR_none hf]
    have h4 := h3.perm (B := blk k1 (geF ge0).toArray T_git_entry * (blk k2 (geF ge0).toArray T_git_entry * (blk a #[.int .i64 s.most, .int .u32 s.first, .slice p s.sp.length c, .slice q s.fr.length d, .int .i64 s.cnt] T_arena_Arena_git_entry_ * (tab T_arena_spot_git_entry_ 39 spotF p s.sp.length c s.sp * (tab T_int 1 fNat q s.fr.length d s.fr * F))))) (by ac_rfl)
    exact ⟨_, _, rfl, br_true rfl <| ldA_blk0 h4.right rfl <| stA_ok h4 rfl rfl (geF_oneA ge0) fun w4 h5 => ldA_blk0 h5 rfl ⟨rfl, Ar.shut h5.right.right⟩⟩
  | some i =>
    rintro _ w3 ⟨rfl, g, hg, rfl⟩
    obtain ⟨y, hy, hst, _⟩ := (find_iff hs).1 hf
    rw [dropR_some hf hy]
    have hlt := (List.getElem?_eq_some_iff.1 hy).1
    have hgy := hs.g y (List.mem_of_getElem? hy)
    have hb := hs.bound
    have hl := hs.len
    have hm := hs.most1
    have hp := count_pos (P := fun z : Spot GE => z.st == 1) hy (by simp [hst])
    have hk := hs.cnt
    obtain ⟨st', hst', hne⟩ : ∃ st' : Int, st' = (if y.g < 4294967295 then 0 else 2) ∧ st' ≠ 1 := ⟨_, rfl, by split <;> decide⟩
    refine ⟨_, _, rfl, br_false rfl <| nn_ok <| tab_ldA spotF_len (o := 0) (n := 37) h3.right.left hg hy (by decide) (spotF_geF y) <| new_ok h3 fun k10 w5 h5 => stA_ok h5 rfl (geF_size _) (geF_oneA _) fun w6 h6 => ?_⟩
    have h6 := h6.perm (B := tab T_arena_spot_git_entry_ 39 spotF p s.sp.length c s.sp * (blk a #[.int .i64 s.most, .int .u32 s.first, .slice p s.sp.length c, .slice q s.fr.length d, .int .i64 s.cnt] T_arena_Arena_git_entry_ * (tab T_int 1 fNat q s.fr.length d s.fr * (blk k10 (geF y.x).toArray T_git_entry * (blk k2 (geF ge0).toArray T_git_entry * (blk k1 (geF ge0).toArray T_git_entry * F)))))) (by ac_rfl)
    generalize hF' : blk k10 (geF y.x).toArray T_git_entry * (blk k2 (geF ge0).toArray T_git_entry * (blk k1 (geF ge0).toArray T_git_entry * F)) = F' at h6
    have k2x : ∀ {w A B C}, Sat w₀ (A * (B * (C * F'))) w → ∀ {K}, K (geF ge0).toArray → ldA (⟨k2, 0, none⟩ : Addr) 37 w K := by
      intro w A B C h K hk
      rw [← hF'] at h
      exact ldA_blk0 h.right.right.right.right (geF_size _) hk
    have fin : ∀ {w s'} {n : Int}, n = 0 → Sat w₀ (Ar a s' * F') w → ldA (⟨k10, 0, none⟩ : Addr) 37 w fun g29 => stA Try.prog (⟨k1, 0, none⟩ : Addr) 37 g29 w fun w14 => ldA (⟨k1, 0, none⟩ : Addr) 37 w14 fun g30 =>
        (fun v w' => v = Value.tuple #[.agg (geF y.x).toArray, .int .i64 n] ∧ Sat w₀ (Ar a s' * F) w') (.tuple #[.agg g30, .int .i64 0]) w14 := by
      rintro w s' n rfl h
      rw [← hF'] at h
      have h := h.perm (B := blk k1 (geF ge0).toArray T_git_entry * (blk k10 (geF y.x).toArray T_git_entry * (blk k2 (geF ge0).toArray T_git_entry * (Ar a s' * F)))) (by ac_rfl)
      exact ldA_blk0 h.right (geF_size _) <| stA_ok h rfl (geF_size _) (geF_oneA _) fun w4 h5 => ldA_blk0 h5 (geF_size _) ⟨rfl, h5.right.right.right⟩
    refine k2x h6 <| nn_ok <| tab_stA spotF_len (o := 0) (n := 37) (y' := ⟨ge0, y.g, y.st⟩) h6 hg hy (by decide) (geF_size _) (geF_oneA _) (spotF_setA _ _ _ _) fun w7 h7 => nn_ok ?_
    refine tab_st spotF_len (y := ⟨ge0, y.g, y.st⟩) (y' := ⟨ge0, y.g, st'⟩) h7 hg (by simp [hlt]) (by decide) (spotF_set38 _ _ _ _ (by simp [hne])) fun w8 h8 => ?_
    rw [List.set_set] at h8
    have h8 := h8.p1
    refine nn_ok <| ldI_ok (h8.left.cell (i := 4) rfl) <| arith_i64 (by omega) (by omega) <| nn_ok <| st_ok (i := 4) h8 (by simp) fun w4 h4 => ?_
    have h4 : Sat w₀ (blk a #[.int .i64 s.most, .int .u32 s.first, .slice p s.sp.length c, .slice q s.fr.length d, .int .i64 ((s.cnt - 1 : Nat) : Int)] T_arena_Arena_git_entry_ * (tab T_arena_spot_git_entry_ 39 spotF p s.sp.length c (s.sp.set i ⟨ge0, y.g, st'⟩) * (tab T_int 1 fNat q s.fr.length d s.fr * F'))) w4 := by
      have e : ((s.cnt - 1 : Nat) : Int) = (s.cnt : Int) - 1 := by omega
      rw [e]
      exact h4
    have hy4 : (s.sp.set i ⟨ge0, y.g, st'⟩)[i]? = some (⟨ge0, y.g, st'⟩ : Spot GE) := by simp [hlt]
    refine nn_ok <| ldI_ok (tab_cell spotF_len (j := 37) h4.right.left hg hy4 (by decide) (spotF_37 _)) <| br_dec (fun hlt => ?_) (fun hge => ?_)
    · have e0 : st' = 0 := by rw [hst', if_pos hlt]
      subst e0
      refine nn_ok <| ldI_ok (tab_cell spotF_len (j := 37) h4.right.left hg hy4 (by decide) (spotF_37 _)) <| arith_u32 (by dsimp only; omega) (by dsimp only at hlt ⊢; omega) <| nn_ok <| tab_st spotF_len (y' := ⟨ge0, y.g + 1, 0⟩) h4.p1 hg hy4 (by decide) (spotF_set37 _ _ _ _) fun w5 h5 => ?_
      rw [List.set_set] at h5
      have h5 := h5.p1
      refine nn_ok <| ldS_ok (h5.left.cell (i := 3) rfl) <| new_ok h5 fun k w6 h6 => ?_
      refine tab_app intsTy fNat_len (by decide) fNat_one (x := i) (h6.perm (B := _ * (tab T_int 1 fNat q s.fr.length d s.fr * (blk a #[.int .i64 s.most, .int .u32 s.first, .slice p s.sp.length c, .slice q s.fr.length d, .int .i64 ((s.cnt - 1 : Nat) : Int)] T_arena_Arena_git_entry_ * (tab T_arena_spot_git_entry_ 39 spotF p s.sp.length c (s.sp.set i ⟨ge0, y.g + 1, 0⟩) * F')))) (by ac_rfl)) rfl (by simp only [maxLen]; omega) (by omega) fun p' c' w7 h7 => ?_
      refine nn_ok <| st_ok (i := 3) h7.p1 (by simp) fun w8 h8 => fin rfl ?_
      rcases drop_cases (z := ge0) hy with ⟨_, hd⟩ | ⟨hn, _⟩
      · rw [hd]
        exact Ar.shut (l := s.sp.length) (m := s.fr.length + 1) (p := p) (q := p') (c := c) (d := c') (h8.perm (by
          show blk a #[.int .i64 s.most, .int .u32 s.first, .slice p s.sp.length c, .slice p' (s.fr.length + 1) c', .int .i64 ((s.cnt - 1 : Nat) : Int)] T_arena_Arena_git_entry_ * _ = _
          ac_rfl))
      · exact absurd hlt hn
    · have e0 : st' = 2 := by rw [hst', if_neg hge]
      subst e0
      refine fin rfl ?_
      rcases drop_cases (z := ge0) hy with ⟨hn, _⟩ | ⟨_, hd⟩
      · exact absurd hn hge
      · rw [hd]
        exact Ar.shut h4

def enc2 (p : Int × GE) : Array Value := #[.int .u64 p.1, .agg (geF p.2).toArray]
def pairOf (p : Nat × Spot GE) : Int × GE := (hd p.1 p.2.g, p.2.x)
theorem arena_All_ok {w₀ w : World} {F : HP} {x : Option Addr} (h : Sat w₀ F w) :
    call Try.prog fn_arena_Arena_All #[.pointer x] w fun v w' => ∃ k t, v = .func (.func fn_arena_Arena_All_1) #[] #[.pointer (some ⟨k, 0, none⟩)] ∧ Sat w₀ (blk k #[.pointer x] t * F) w' := by
  apply arena_Arena_All_call
  unfold arena_Arena_All
  exact new_ok h fun k w1 h1 => ⟨k, _, rfl, h1⟩
theorem All_iter {w₀ : World} {k a t : Nat} {s : AS GE} {Pre : HP} (hs : AOk s) (hP : ∀ w, Sat w₀ Pre w → Sat w₀ (blk k #[.pointer (some ⟨a, 0, none⟩)] t) w) (hA : ∀ w, Sat w₀ Pre w → Sat w₀ (Ar a s) w) :
    IterC Try.prog w₀ fn_arena_Arena_All_1 #[.pointer (some ⟨k, 0, none⟩)] Pre ((liveFrom 0 s.sp).map fun p => enc2 (pairOf p)) := by
  intro f b c B Bx hok hB hy F w h
  show call Try.prog _ #[.func f b c, .pointer (some ⟨k, 0, none⟩)] w _
  apply arena_Arena_All_1_call
  unfold arena_Arena_All_1
  have hl := hs.len
  have hm := hs.most1
  refine ldP_ok ((hP _ (hB _ h.left)).cell (i := 0) rfl) <| br_false rfl <| new_ok h fun k2 w1 h1 => ?_
  have h1' := hP _ (hB _ h1.right.left)
  obtain ⟨p, c5, q, d, h2⟩ := Ar.open_ ((hA _ (hB _ h1.right.left)).with_emp.e1)
  refine ldP_ok (h1'.cell (i := 0) rfl) <| nn_ok <| ldS_ok (h2.left.cell (i := 2) rfl) ?_
  have hT : Sat w₀ (own T_arena_spot_git_entry_ 39 p s.sp.length c5 (s.sp.flatMap spotF)) w1 := h2.right.left
  refine app_ok spotsTy (Sat.own_full (t := T_arena_spot_git_entry_) (sz := 39) (n := 0) h1 rfl (by decide)) hT.rd (tab_mem spotF_one) (by simp only [maxLen]; omega) (by omega) fun p6 c6 w2 h3 => ?_
  rw [Nat.zero_add] at h3 ⊢
  have h3 : Sat w₀ (tab T_arena_spot_git_entry_ 39 spotF p6 s.sp.length c6 s.sp * (B 0 * F)) w2 := h3
  refine ⟨fun n w m => 0 ≤ n ∧ n ≤ s.sp.length ∧ m = s.sp.length - n.toNat ∧ Sat w₀ (tab T_arena_spot_git_entry_ 39 spotF p6 s.sp.length c6 s.sp * (B (liveFrom 0 (s.sp.take n.toNat)).length * F)) w, ⟨_, by omega, by omega, rfl, h3⟩, ?_⟩
  rintro u n w3 m ⟨h0, h1, rfl, h4⟩
  refine br_dec (fun hlt => ?_) (fun hge => .inl ?_)
  · obtain ⟨i, rfl⟩ : ∃ i : Nat, n = i := ⟨n.toNat, by omega⟩
    rw [Int.toNat_natCast] at h4
    have hi : i < s.sp.length := by omega
    obtain ⟨y, hy0⟩ : ∃ y, s.sp[i]? = some y := ⟨s.sp[i], by simp [hi]⟩
    have hy' : s.sp[(i : Int).toNat]? = some y := by rw [Int.toNat_natCast]; exact hy0
    have hgy := hs.g y (List.mem_of_getElem? hy0)
    have e1 : ((i : Int) + 1).toNat = i + 1 := by omega
    have e2 : s.sp.take (i + 1) = s.sp.take i ++ [y] := by rw [List.take_add_one, hy0]; rfl
    have e3 : (s.sp.take i).length = i := by rw [List.length_take]; omega
    refine tab_idx spotF_len h4.left (by decide) (by omega) hy' fun g hg => tab_ldA0 spotF_len h4.left hg hy' <| new_ok h4 fun k3 w4 h5 => stA_ok h5 rfl (by simp [spotF_len]) (fun u hu => spotF_one y u hu) fun w5 h6 => ?_
    have h6 := h6.drew
    have c38 : (spotF y).toArray[38]? = some (.bool (y.st == 1)) := by rw [List.getElem?_toArray]; exact spotF_38 y
    have c37 : (spotF y).toArray[37]? = some (.int .u32 y.g) := by rw [List.getElem?_toArray]; exact spotF_37 y
    have ex : (spotF y).toArray.extract 0 (0 + 37) = (geF y.x).toArray := by
      apply Array.ext'
      rw [Array.toList_extract, List.extract_eq_take_drop]
      exact spotF_geF y
    refine ldB_ok (cell_blk h6 c38) <| br_split (fun ht => ?_) (fun hf => ?_)
    · have ht : y.st = 1 := by simpa using ht
      refine ldI_ok (cell_blk h6 c37) <| ldA_blk (o := 0) (n := 37) h6 (by simp [spotF_len]) ?_
      rw [ex]
      refine call_pure (arena_handle_ok (i := i) (g := y.g) (by omega) (by omega) (by omega)) <| asI_ok <| keepS_blk (o := 0) (vs := (geF y.x).toArray) h6 (fun j hj => ?_) ?_
      · have hj : j < 37 := by rw [geF_size] at hj; exact hj
        have h37 := geF_len y.x
        rw [List.getElem?_toArray, List.getElem?_toArray, Nat.zero_add, spotF, List.getElem?_append_left (by omega)]
      have hx : ((liveFrom 0 s.sp).map fun p => enc2 (pairOf p))[(liveFrom 0 (s.sp.take i)).length]? = some (enc2 (hd i y.g, y.x)) := by
        have e4 : s.sp = s.sp.take i ++ (y :: s.sp.drop (i + 1)) := by
          conv => lhs; rw [← List.take_append_drop i s.sp, List.drop_eq_getElem_cons hi]
          rw [List.getElem?_eq_getElem hi] at hy0
          cases hy0
          rfl
        have e5 : liveFrom 0 s.sp = liveFrom 0 (s.sp.take i) ++ (i, y) :: liveFrom (i + 1) (s.sp.drop (i + 1)) := by
          conv => lhs; rw [e4, liveFrom_more, e3, Nat.zero_add, liveFrom, if_pos ht]
        rw [List.getElem?_map, e5]
        simp [pairOf]
      refine callV_mono (hy _ _ hx (blk k3 (spotF y).toArray T_arena_spot_git_entry_ * (tab T_arena_spot_git_entry_ 39 spotF p6 s.sp.length c6 s.sp * F)) _ (h6.perm (by ac_rfl))) ?_
      rintro v w7 (⟨rfl, h7⟩ | ⟨rfl, h7⟩)
      · refine asB_ok <| br_false rfl <| arith_i64 (by omega) (by omega) ⟨_, ?_, by omega, by omega, rfl, ?_⟩
        · omega
        · rw [e1, e2, liveFrom_append, if_pos ht, List.length_append]
          exact (h7.perm (B := blk k3 (spotF y).toArray T_arena_spot_git_entry_ * (tab T_arena_spot_git_entry_ 39 spotF p6 s.sp.length c6 s.sp * (B ((liveFrom 0 (s.sp.take i)).length + 1) * F))) (by ac_rfl)).right
      · exact asB_ok <| br_true rfl <| .inr ((h7.perm (B := (blk k3 (spotF y).toArray T_arena_spot_git_entry_ * tab T_arena_spot_git_entry_ 39 spotF p6 s.sp.length c6 s.sp) * (Bx * F)) (by ac_rfl)).right)
    · have hf : y.st ≠ 1 := by simpa using hf
      refine arith_i64 (by omega) (by omega) ⟨_, by omega, by omega, by omega, rfl, ?_⟩
      rw [e1, e2, liveFrom_append, if_neg hf, List.append_nil]
      exact h6.right
  · have e : s.sp.take n.toNat = s.sp := by rw [List.take_of_length_le]; omega
    rw [e] at h4
    rw [List.length_map]
    exact h4.right
end Go.Proofs.Ytkgbfnlnpfedkaa
