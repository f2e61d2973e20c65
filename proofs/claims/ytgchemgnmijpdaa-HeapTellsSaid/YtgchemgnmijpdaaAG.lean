/- Contracts of layer 2 (arena) at things that are found by pointers. No conditions. -/
import Derived.Test.YtgchemgnmijpdaaAPH
import Derived.Test.YtgchemgnmijpdaaATY
import Derived.Test.YtgchemgnmijpdaaAL
set_option linter.unusedVariables false
set_option linter.unusedSimpArgs false
namespace Go.Proofs.Ytgchemgnmijpdaa
open Go.Sp Go.RowKit

/-- A thing's block, if there is one. -/
abbrev Pay := Option Nat
def pvA (x : Pay) : Option Addr := x.map fun k => ⟨k, 0, none⟩
def PV (x : Pay) : Value := .pointer (pvA x)
def spotF (y : Spot Pay) : List Value := [PV y.x, .int .u32 y.g, .bool (y.st == 1)]
theorem spotF_len (y : Spot Pay) : (spotF y).length = 3 := rfl
theorem spotF_one (y : Spot Pay) : ∀ u ∈ spotF y, u.oneCell' = true := by simp [spotF, PV, Value.oneCell']
def Ar (a : Nat) (s : AS Pay) : HP := ex fun p => ex fun l => ex fun c => ex fun q => ex fun m => ex fun d =>
  blk a #[.int .i64 s.most, .int .u32 s.first, .slice p l c, .slice q m d, .int .i64 s.cnt] TArena * (tab TSpot 3 spotF p l c s.sp * tab T_int 1 fNat q m d s.fr)
theorem Ar.open_ {w₀ w : World} {F : HP} {a : Nat} {s : AS Pay} (h : Sat w₀ (Ar a s * F) w) : ∃ p c q d, Sat w₀ (blk a #[.int .i64 s.most, .int .u32 s.first, .slice p s.sp.length c, .slice q s.fr.length d, .int .i64 s.cnt] TArena * (tab TSpot 3 spotF p s.sp.length c s.sp * (tab T_int 1 fNat q s.fr.length d s.fr * F))) w := by
  obtain ⟨p, h⟩ := Sat.ex h
  obtain ⟨l, h⟩ := Sat.ex h
  obtain ⟨c, h⟩ := Sat.ex h
  obtain ⟨q, h⟩ := Sat.ex h
  obtain ⟨m, h⟩ := Sat.ex h
  obtain ⟨d, h⟩ := Sat.ex h
  have h := h.perm (B := blk a #[.int .i64 s.most, .int .u32 s.first, .slice p l c, .slice q m d, .int .i64 s.cnt] TArena * (tab TSpot 3 spotF p l c s.sp * (tab T_int 1 fNat q m d s.fr * F))) (by ac_rfl)
  have e1 := tab_len spotF_len (by decide) h.right.left
  have e2 := tab_len fNat_len (by decide) h.right.right.left
  subst e1 e2
  exact ⟨p, c, q, d, h⟩
theorem Ar.shut {w₀ w : World} {F : HP} {a l m : Nat} {most first : Int} {sp : List (Spot Pay)} {fr : List Nat} {cnt : Nat} {p q : Option Addr} {c d : Nat}
    (h : Sat w₀ (blk a #[.int .i64 most, .int .u32 first, .slice p l c, .slice q m d, .int .i64 cnt] TArena * (tab TSpot 3 spotF p l c sp * (tab T_int 1 fNat q m d fr * F))) w) : Sat w₀ (Ar a ⟨most, first, sp, fr, cnt⟩ * F) w :=
  Sat.to_ex p (Sat.to_ex l (Sat.to_ex c (Sat.to_ex q (Sat.to_ex m (Sat.to_ex d (h.perm (by ac_rfl)))))))

theorem arena_New_ok {w₀ w : World} {F : HP} {most first : Int} (h : Sat w₀ F w) (h0 : 1 ≤ most) (h1 : most ≤ 65536) (h2 : first ≠ 0) :
    call Try.prog fn_arena_New #[.int .i64 most, .int .u32 first] w fun v w' => ∃ a, v = .tuple #[.pointer (some ⟨a, 0, none⟩), .int .i64 0] ∧ Sat w₀ (Ar a ⟨most, first, [], [], 0⟩ * F) w' := by
  apply arena_New_call
  unfold arena_New
  exact br_false (by simp; omega) <| br_false (by simp; omega) <| br_false (by simp; exact h2) <| new_ok h fun b w2 h2 => ⟨b, rfl, Ar.shut (l := 0) (m := 0) ((tab_nil TSpot 3 spotF (tab_nil T_int 1 fNat h2)).perm (by ac_rfl))⟩
theorem arena_New_no {w : World} {most first : Int} (h0 : most < 1 ∨ most > 65536 ∨ first = 0) :
    PureCall Try.prog fn_arena_New #[.int .i64 most, .int .u32 first] (.tuple #[.pointer none, .int .i64 1]) := by
  intro w
  apply arena_New_call
  unfold arena_New
  refine br_dec (fun _ => ⟨rfl, rfl⟩) fun h1 => br_dec (fun _ => ⟨rfl, rfl⟩) fun h2 => ?_
  have : first = 0 := by omega
  exact br_true (by simp [this]) ⟨rfl, rfl⟩
theorem arena_Split_ok {h : Int} (h0 : 0 ≤ h) (h1 : h ≤ 18446744073709551615) : PureCall Try.prog fn_arena_Split #[.int .u64 h] (.tuple #[.int .i64 (h % 4294967296 - 1), .int .u32 (h / 4294967296)]) := by
  intro w
  apply arena_Split_call
  unfold arena_Split
  refine arith_u32_mod <| arith_i64 (by omega) (by omega) <| arith_i64 (by omega) (by omega) <| shr_ok (by omega) (by simp only [IntKind.bits]; omega) ?_
  have e : (2 : Int) ^ (32 : Int).toNat = 4294967296 := by decide
  rw [e]
  exact arith_u32 (by omega) (by omega) ⟨rfl, rfl⟩
theorem hd_or {i : Nat} {g : Int} (hi : i < 4294967295) (h0 : 0 ≤ g) (h1 : g ≤ 4294967295) : bitw .or .u64 (g * 2 ^ 32) ((i : Int) + 1) = hd i g := by
  obtain ⟨n, rfl⟩ : ∃ n : Nat, g = n := ⟨g.toNat, by omega⟩
  have := or_high (x := i + 1) (b := n) (i := 32) (by omega) (by omega) (by omega)
  have e1 : ((n * 2 ^ 32 : Nat) : Int) = (n : Int) * 2 ^ 32 := by simp
  rw [e1] at this
  rw [show (i : Int) + 1 = ((i + 1 : Nat) : Int) by omega, this, hd]
  omega
theorem arena_handle_ok {i : Nat} {g : Int} (hi : i < 4294967295) (h0 : 0 ≤ g) (h1 : g ≤ 4294967295) : PureCall Try.prog fn_arena_handle #[.int .i64 i, .int .u32 g] (.int .u64 (hd i g)) := by
  intro w
  apply arena_handle_call
  unfold arena_handle
  refine arith_u64 (by omega) (by omega) <| shl_u64 (n := 32) (by omega) (by omega) (by omega) <| arith_i64 (by omega) (by omega) <| arith_u64 (by omega) (by omega) ?_
  rw [hd_or hi h0 h1]
  exact ⟨rfl, rfl⟩
theorem find_nil {h : Int} (h0 : 0 ≤ h) (h1 : h ≤ 18446744073709551615) : PureCall Try.prog fn_arena_Arena_find #[.pointer none, .int .u64 h] (.tuple #[.pointer none, .int .i64 0]) := by
  intro w
  apply arena_Arena_find_call
  unfold arena_Arena_find
  exact call_pure (arena_Split_ok h0 h1) ⟨_, _, rfl, br_true rfl ⟨rfl, rfl⟩⟩
theorem arena_find_ok {w₀ w : World} {F : HP} {a c : Nat} {s : AS Pay} {p q : Option Addr} {m d : Nat} {h : Int} (hh : Sat w₀ (blk a #[.int .i64 s.most, .int .u32 s.first, .slice p s.sp.length c, .slice q m d, .int .i64 s.cnt] TArena * (tab TSpot 3 spotF p s.sp.length c s.sp * F)) w)
    (h0 : 0 ≤ h) (h1 : h ≤ 18446744073709551615) :
    call Try.prog fn_arena_Arena_find #[.pointer (some ⟨a, 0, none⟩), .int .u64 h] w fun v w' => w' = w ∧
      match find s h with
      | none => v = .tuple #[.pointer none, .int .i64 0]
      | some i => ∃ g, p = some ⟨g, 0, none⟩ ∧ v = .tuple #[.pointer (some ⟨g, i * 3, none⟩), .int .i64 i] := by
  apply arena_Arena_find_call
  unfold arena_Arena_find
  have hc : w.cell? ⟨a, 2, none⟩ = some (.slice p s.sp.length c) := hh.left.cell (i := 2) rfl
  refine call_pure (arena_Split_ok h0 h1) ⟨_, _, rfl, br_false rfl <| br_dec (fun hlt => ?_) (fun hge => nn_ok <| ldS_ok hc <| br_dec (fun hge2 => ?_) (fun hlt2 => nn_ok <| ldS_ok hc ?_))⟩
  · rw [find, if_pos (by omega)]
    exact ⟨rfl, rfl⟩
  · rw [find, if_neg (by omega), List.getElem?_eq_none (by omega)]
    exact ⟨rfl, rfl⟩
  · obtain ⟨y, hy⟩ : ∃ y, s.sp[(h % 4294967296 - 1).toNat]? = some y := ⟨s.sp[(h % 4294967296 - 1).toNat]'(by omega), by simp⟩
    have hT := hh.right.left
    refine tab_idx spotF_len hT (by decide) (by omega) hy fun g hg => ldB_ok (tab_cell spotF_len (j := 2) hT hg hy (by decide) rfl) <| br_split (fun hb => ?_) (fun hb => ldI_ok (tab_cell spotF_len (j := 1) hT hg hy (by decide) rfl) <| br_split (fun hn => ?_) (fun hn => ?_))
    · have hb : y.st ≠ 1 := by simpa using hb
      rw [find, if_neg (by omega), hy]
      simp [hb]
    · have hn : y.g ≠ h / 4294967296 := by simpa using hn
      rw [find, if_neg (by omega), hy]
      simp [hn]
    · have hb : y.st = 1 := by simpa using hb
      have hn : y.g = h / 4294967296 := by simpa using hn
      rw [find, if_neg (by omega), hy]
      simp only [hb, hn, and_self, if_true]
      refine ⟨trivial, g, hg, ?_⟩
      rw [Int.toNat_of_nonneg (by omega)]
theorem arena_Get_ok {w₀ w : World} {F : HP} {a : Nat} {s : AS Pay} {h : Int} (hh : Sat w₀ (Ar a s * F) w) (h0 : 0 ≤ h) (h1 : h ≤ 18446744073709551615) :
    call Try.prog fn_arena_Arena_Get #[.pointer (some ⟨a, 0, none⟩), .int .u64 h] w fun v w' => w' = w ∧
      match (find s h).bind (s.sp[·]?) with
      | none => v = .tuple #[.pointer none, .int .i64 2]
      | some y => v = .tuple #[PV y.x, .int .i64 0] := by
  apply arena_Arena_Get_call
  unfold arena_Arena_Get
  obtain ⟨p, c, q, d, hh⟩ := Ar.open_ hh
  refine call_mono (arena_find_ok hh h0 h1) ?_
  cases hf : find s h with
  | none =>
    rintro _ w1 ⟨rfl, rfl⟩
    exact ⟨_, _, rfl, br_true rfl ⟨rfl, rfl⟩⟩
  | some i =>
    rintro _ w1 ⟨rfl, g, hg, rfl⟩
    have hy : ∃ y, s.sp[i]? = some y := by
      unfold find at hf
      split at hf
      · cases hf
      split at hf
      · rename_i y hy
        split at hf
        · cases hf; exact ⟨y, hy⟩
        · cases hf
      · cases hf
    obtain ⟨y, hy⟩ := hy
    rw [Option.bind_some, hy]
    exact ⟨_, _, rfl, br_false rfl <| nn_ok <| ldP_ok (n := pvA y.x) (tab_cell spotF_len (j := 0) hh.right.left hg hy (by decide) rfl) ⟨rfl, rfl⟩⟩
theorem spotsTy : SliceTy Try.prog TSpots TSpot (.agg #[.pointer none, .int .u32 0, .bool false]) 3 16 := ⟨by kernel_rfl, by kernel_rfl, rfl, by decide⟩
theorem arena_Put_ok {w₀ w : World} {F : HP} {a : Nat} {s : AS Pay} {x : Pay} (h : Sat w₀ (Ar a s * F) w) (hs : AOk s) :
    call Try.prog fn_arena_Arena_Put #[.pointer (some ⟨a, 0, none⟩), PV x] w fun v w' => v = .tuple #[.int .u64 (put s x).2.1, .int .i64 (put s x).2.2] ∧ Sat w₀ (Ar a (put s x).1 * F) w' := by
  apply arena_Arena_Put_call
  unfold arena_Arena_Put
  obtain ⟨p, c, q, d, h⟩ := Ar.open_ h
  have hl := hs.len
  have hm := hs.most1
  have hb := hs.bound
  refine br_false rfl <| nn_ok <| ldS_ok (h.left.cell (i := 2) rfl) ?_
  rcases put_cases hs x with ⟨fr, i, y, hfr, hy, hst, hput⟩ | ⟨hfr, hfull, hput⟩ | ⟨hfr, hfull, hput⟩
  · have hlt := (List.getElem?_eq_some_iff.1 hy).1
    have hg := hs.g y (List.mem_of_getElem? hy)
    have hfl : s.fr.length = fr.length + 1 := by simp [hfr]
    refine ⟨fun n w => n = (i : Int) ∧ ∃ q' d', Sat w₀ (blk a #[.int .i64 s.most, .int .u32 s.first, .slice p s.sp.length c, .slice q' fr.length d', .int .i64 s.cnt] TArena * (tab TSpot 3 spotF p s.sp.length c s.sp * (tab T_int 1 fNat q' fr.length d' fr * F))) w, ?_, ?_⟩
    · refine nn_ok <| ldS_ok (h.left.cell (i := 3) rfl) <| br_true (by simp; omega) <| nn_ok <| ldS_ok (h.left.cell (i := 3) rfl) <| arith_i64 (by omega) (by omega) ?_
      have hlast : s.fr[((s.fr.length : Int) - 1).toNat]? = some i := by
        have e : ((s.fr.length : Int) - 1).toNat = fr.length := by omega
        rw [e, hfr]
        simp
      refine tab_idx fNat_len h.right.right.left (by decide) (by omega) hlast fun g hg => ldI_ok (tab_cell fNat_len (j := 0) h.right.right.left hg hlast (by decide) rfl) <| nn_ok <| ldS_ok (h.left.cell (i := 3) rfl) <| arith_i64 (by omega) (by omega) ?_
      have h3 := h.perm (B := tab T_int 1 fNat q s.fr.length d s.fr * (blk a #[.int .i64 s.most, .int .u32 s.first, .slice p s.sp.length c, .slice q s.fr.length d, .int .i64 s.cnt] TArena * (tab TSpot 3 spotF p s.sp.length c s.sp * F))) (by ac_rfl)
      refine slc_own (h3 : Sat w₀ (own T_int 1 q s.fr.length d (s.fr.flatMap fNat) * _) w) (by omega) (by omega) ?_
      have e : ((s.fr.length : Int) - 1).toNat = fr.length := by omega
      rw [e]
      have h4 := tab_cut fNat_len h3 (show fr.length ≤ s.fr.length by omega)
      rw [hfr, List.take_left' rfl] at h4
      refine nn_ok <| st_ok (i := 3) h4.p1 (by simp) fun w5 h5 => ⟨rfl, q, d, h5.perm ?_⟩
      show blk a #[.int .i64 s.most, .int .u32 s.first, .slice p s.sp.length c, .slice q fr.length d, .int .i64 s.cnt] TArena * _ = _
      ac_rfl
    · rintro u n w5 ⟨rfl, q', d', h5⟩
      have hy' : s.sp[(i : Int).toNat]? = some y := by rw [Int.toNat_natCast]; exact hy
      refine nn_ok <| ldS_ok (h5.left.cell (i := 2) rfl) <| tab_idx spotF_len h5.right.left (by decide) (by omega) hy' fun g hg => ?_
      rw [Int.toNat_natCast]
      refine tab_st spotF_len (y' := ⟨x, y.g, y.st⟩) h5.p1 hg hy (by decide) rfl fun w6 h6 => ?_
      refine tab_st spotF_len (y := ⟨x, y.g, y.st⟩) (y' := ⟨x, y.g, 1⟩) h6 hg (by simp [hlt]) (by decide) rfl fun w7 h7 => ?_
      rw [List.set_set] at h7
      have h7 := h7.p1
      refine nn_ok <| ldI_ok (h7.left.cell (i := 4) rfl) <| arith_i64 (by omega) (by omega) <| nn_ok <| st_ok (i := 4) h7 (by simp) fun w8 h8 => ?_
      refine ldI_ok (tab_cell spotF_len (j := 1) (y := ⟨x, y.g, 1⟩) h8.right.left hg (by simp [hlt]) (by decide) rfl) <| call_pure (arena_handle_ok (i := i) (g := y.g) (by omega) (by omega) (by omega)) <| asI_ok ?_
      rw [hput]
      refine ⟨rfl, Ar.shut (l := s.sp.length) (m := fr.length) (p := p) (q := q') (c := c) (d := d') ?_⟩
      exact h8
  · rw [hput]
    refine ⟨fun _ _ => False, ?_, fun _ _ _ h => h.elim⟩
    refine nn_ok <| ldS_ok (h.left.cell (i := 3) rfl) <| br_false (by simp [hfr]) <| nn_ok <| ldI_ok (h.left.cell (i := 0) rfl) <| br_true (by simp [hfull]) ⟨rfl, ?_⟩
    exact Ar.shut h
  · have e0 : s.fr.length = 0 := by rw [hfr]; rfl
    refine ⟨fun n w => n = (s.sp.length : Int) ∧ ∃ p' c', Sat w₀ (blk a #[.int .i64 s.most, .int .u32 s.first, .slice p' (s.sp.length + 1) c', .slice q 0 d, .int .i64 s.cnt] TArena * (tab TSpot 3 spotF p' (s.sp.length + 1) c' (s.sp ++ [⟨none, s.first, 0⟩]) * (tab T_int 1 fNat q 0 d [] * F))) w, ?_, ?_⟩
    · rw [e0, hfr] at h
      have hd := h.drew
      refine nn_ok <| ldS_ok (h.left.cell (i := 3) rfl) <| br_false (by simp) <| nn_ok <| ldI_ok (h.left.cell (i := 0) rfl) <| br_false (by simp; omega) <| nn_ok <| ldS_ok (hd.left.cell (i := 2) rfl) <| nn_ok <| ldI_ok (hd.left.cell (i := 1) rfl) ⟨rfl, new_ok hd fun k w3 h3 => ?_⟩
      refine tab_app spotsTy spotF_len (by decide) spotF_one (x := ⟨none, s.first, 0⟩) (h3.perm (B := _ * (tab TSpot 3 spotF p s.sp.length c s.sp * (blk a #[.int .i64 s.most, .int .u32 s.first, .slice p s.sp.length c, .slice q 0 d, .int .i64 s.cnt] TArena * (tab T_int 1 fNat q 0 d [] * F)))) (by ac_rfl)) rfl (by simp only [maxLen]; omega) (by omega) fun p' c' w4 h4 => ?_
      refine nn_ok <| st_ok (i := 2) h4.p1 (by simp) fun w5 h5 => ⟨rfl, p', c', ?_⟩
      exact h5
    · rintro u n w5 ⟨rfl, p', c', h5⟩
      have hy : (s.sp ++ [⟨none, s.first, 0⟩])[s.sp.length]? = some (⟨none, s.first, 0⟩ : Spot Pay) := by simp
      have hy' : (s.sp ++ [⟨none, s.first, 0⟩])[(s.sp.length : Int).toNat]? = some (⟨none, s.first, 0⟩ : Spot Pay) := by simp
      have hf0 := hs.first0
      have hf1 := hs.first1
      refine nn_ok <| ldS_ok (h5.left.cell (i := 2) rfl) <| tab_idx spotF_len h5.right.left (by decide) (by omega) hy' fun g hg => ?_
      rw [Int.toNat_natCast]
      refine tab_st spotF_len (y' := ⟨x, s.first, 0⟩) h5.p1 hg hy (by decide) rfl fun w6 h6 => ?_
      refine tab_st spotF_len (y := ⟨x, s.first, 0⟩) (y' := ⟨x, s.first, 1⟩) h6 hg (by simp) (by decide) rfl fun w7 h7 => ?_
      rw [List.set_set] at h7
      have h7 := h7.p1
      refine nn_ok <| ldI_ok (h7.left.cell (i := 4) rfl) <| arith_i64 (by omega) (by omega) <| nn_ok <| st_ok (i := 4) h7 (by simp) fun w8 h8 => ?_
      refine ldI_ok (tab_cell spotF_len (j := 1) (y := ⟨x, s.first, 1⟩) h8.right.left hg (by simp) (by decide) rfl) <| call_pure (arena_handle_ok (i := s.sp.length) (g := s.first) (by omega) (by omega) (by omega)) <| asI_ok ?_
      rw [hput]
      refine ⟨rfl, Ar.shut (l := s.sp.length + 1) (m := 0) (p := p') (q := q) (c := c') (d := d) ?_⟩
      have e : (s.sp ++ [(⟨none, s.first, 0⟩ : Spot Pay)]).set s.sp.length (⟨x, s.first, 1⟩ : Spot Pay) = s.sp ++ [⟨x, s.first, 1⟩] := by simp
      rw [← e]
      exact h8
theorem arena_Drop_ok {w₀ w : World} {F : HP} {a : Nat} {s : AS Pay} {h : Int} (hh : Sat w₀ (Ar a s * F) w) (hs : AOk s) (h0 : 0 ≤ h) (h1 : h ≤ 18446744073709551615) :
    call Try.prog fn_arena_Arena_Drop #[.pointer (some ⟨a, 0, none⟩), .int .u64 h] w fun v w' => v = .tuple #[PV (dropR none s h).2.1, .int .i64 (dropR none s h).2.2] ∧ Sat w₀ (Ar a (dropR none s h).1 * F) w' := by
  apply arena_Arena_Drop_call
  unfold arena_Arena_Drop
  obtain ⟨p, c, q, d, hh⟩ := Ar.open_ hh
  refine call_mono (arena_find_ok hh h0 h1) ?_
  cases hf : find s h with
  | none =>
    rintro _ w1 ⟨rfl, rfl⟩
    rw [dropR_none hf]
    exact ⟨_, _, rfl, br_true rfl ⟨rfl, Ar.shut hh⟩⟩
  | some i =>
    rintro _ w1 ⟨rfl, g, hg, rfl⟩
    obtain ⟨y, hy, hst, _⟩ := (find_iff hs).1 hf
    rw [dropR_some hf hy]
    have hlt := (List.getElem?_eq_some_iff.1 hy).1
    have hgy := hs.g y (List.mem_of_getElem? hy)
    have hb := hs.bound
    have hl := hs.len
    have hm := hs.most1
    have hp := count_pos (P := fun z : Spot Pay => z.st == 1) hy (by simp [hst])
    have hk := hs.cnt
    obtain ⟨st', hst', hne⟩ : ∃ st' : Int, st' = (if y.g < 4294967295 then 0 else 2) ∧ st' ≠ 1 := ⟨_, rfl, by split <;> decide⟩
    refine ⟨_, _, rfl, br_false rfl <| nn_ok <| ldP_ok (n := pvA y.x) (tab_cell spotF_len (j := 0) hh.right.left hg hy (by decide) rfl) <| nn_ok ?_⟩
    refine tab_st spotF_len (y' := ⟨none, y.g, 1⟩) hh.p1 hg hy (by decide) (by simp [spotF, hst, PV, pvA]) fun w2 h2 => nn_ok ?_
    refine tab_st spotF_len (y := ⟨none, y.g, 1⟩) (y' := ⟨none, y.g, st'⟩) h2 hg (by simp [hlt]) (by decide) (by simp [spotF, hne]) fun w3 h3 => ?_
    rw [List.set_set] at h3
    have h3 := h3.p1
    refine nn_ok <| ldI_ok (h3.left.cell (i := 4) rfl) <| arith_i64 (by omega) (by omega) <| nn_ok <| st_ok (i := 4) h3 (by simp) fun w4 h4 => ?_
    have h4 : Sat w₀ (blk a #[.int .i64 s.most, .int .u32 s.first, .slice p s.sp.length c, .slice q s.fr.length d, .int .i64 ((s.cnt - 1 : Nat) : Int)] TArena * (tab TSpot 3 spotF p s.sp.length c (s.sp.set i ⟨none, y.g, st'⟩) * (tab T_int 1 fNat q s.fr.length d s.fr * F))) w4 := by
      have e : ((s.cnt - 1 : Nat) : Int) = (s.cnt : Int) - 1 := by omega
      rw [e]
      exact h4
    have hy4 : (s.sp.set i ⟨none, y.g, st'⟩)[i]? = some (⟨none, y.g, st'⟩ : Spot Pay) := by simp [hlt]
    refine nn_ok <| ldI_ok (tab_cell spotF_len (j := 1) h4.right.left hg hy4 (by decide) rfl) <| br_dec (fun hlt => ?_) (fun hge => ?_)
    · have e0 : st' = 0 := by rw [hst', if_pos hlt]
      subst e0
      refine nn_ok <| ldI_ok (tab_cell spotF_len (j := 1) h4.right.left hg hy4 (by decide) rfl) <| arith_u32 (by dsimp only; omega) (by dsimp only at hlt ⊢; omega) <| nn_ok <| tab_st spotF_len (y' := ⟨none, y.g + 1, 0⟩) h4.p1 hg hy4 (by decide) rfl fun w5 h5 => ?_
      rw [List.set_set] at h5
      have h5 := h5.p1
      refine nn_ok <| ldS_ok (h5.left.cell (i := 3) rfl) <| new_ok h5 fun k w6 h6 => ?_
      refine tab_app intsTy fNat_len (by decide) fNat_one (x := i) (h6.perm (B := _ * (tab T_int 1 fNat q s.fr.length d s.fr * (blk a #[.int .i64 s.most, .int .u32 s.first, .slice p s.sp.length c, .slice q s.fr.length d, .int .i64 ((s.cnt - 1 : Nat) : Int)] TArena * (tab TSpot 3 spotF p s.sp.length c (s.sp.set i ⟨none, y.g + 1, 0⟩) * F)))) (by ac_rfl)) rfl (by simp only [maxLen]; omega) (by omega) fun p' c' w7 h7 => ?_
      refine nn_ok <| st_ok (i := 3) h7.p1 (by simp) fun w8 h8 => ⟨rfl, ?_⟩
      rcases drop_cases (z := (none : Pay)) hy with ⟨_, hd⟩ | ⟨hn, _⟩
      · rw [hd]
        exact Ar.shut (l := s.sp.length) (m := s.fr.length + 1) (p := p) (q := p') (c := c) (d := c') (h8.perm (by
          show blk a #[.int .i64 s.most, .int .u32 s.first, .slice p s.sp.length c, .slice p' (s.fr.length + 1) c', .int .i64 ((s.cnt - 1 : Nat) : Int)] TArena * _ = _
          ac_rfl))
      · exact absurd hlt hn
    · have e0 : st' = 2 := by rw [hst', if_neg hge]
      subst e0
      refine ⟨rfl, ?_⟩
      rcases drop_cases (z := (none : Pay)) hy with ⟨hn, _⟩ | ⟨_, hd⟩
      · exact absurd hn hge
      · rw [hd]
        exact Ar.shut h4
def enc2 (p : Int × Pay) : Array Value := #[.int .u64 p.1, PV p.2]
def pairOf (p : Nat × Spot Pay) : Int × Pay := (hd p.1 p.2.g, p.2.x)
theorem arena_All_ok {w₀ w : World} {F : HP} {x : Option Addr} (h : Sat w₀ F w) :
    call Try.prog fn_arena_Arena_All #[.pointer x] w fun v w' => ∃ k t, v = .func (.func fn_arena_Arena_All_1) #[] #[.pointer (some ⟨k, 0, none⟩)] ∧ Sat w₀ (blk k #[.pointer x] t * F) w' := by
  apply arena_Arena_All_call
  unfold arena_Arena_All
  exact new_ok h fun k w1 h1 => ⟨k, _, rfl, h1⟩
theorem All_iter {w₀ : World} {k a t : Nat} {s : AS Pay} {Pre : Nat → HP} (hs : AOk s) (hP : ∀ w, Sat w₀ (Pre 0) w → Sat w₀ (blk k #[.pointer (some ⟨a, 0, none⟩)] t) w) (hA : ∀ w, Sat w₀ (Pre 0) w → Sat w₀ (Ar a s) w) :
    IterC Try.prog w₀ fn_arena_Arena_All_1 #[.pointer (some ⟨k, 0, none⟩)] Pre ((liveFrom 0 s.sp).map fun p => enc2 (pairOf p)) := by
  intro f b c B Bx hok hB hy F w h
  show call Try.prog _ #[.func f b c, .pointer (some ⟨k, 0, none⟩)] w _
  apply arena_Arena_All_1_call
  unfold arena_Arena_All_1
  have hl := hs.len
  have hm := hs.most1
  refine ldP_ok ((hP _ (hB 0 _ h.left)).cell (i := 0) rfl) <| br_false rfl <| new_ok h fun k2 w1 h1 => ?_
  have h1' := hP _ (hB 0 _ h1.right.left)
  obtain ⟨p, c5, q, d, h2⟩ := Ar.open_ ((hA _ (hB 0 _ h1.right.left)).with_emp.e1)
  refine ldP_ok (h1'.cell (i := 0) rfl) <| nn_ok <| ldS_ok (h2.left.cell (i := 2) rfl) ?_
  have hT : Sat w₀ (own TSpot 3 p s.sp.length c5 (s.sp.flatMap spotF)) w1 := h2.right.left
  refine app_ok spotsTy (Sat.own_full (t := TSpot) (sz := 3) (n := 0) h1 rfl (by decide)) hT.rd (fun u hu => ?_) (by simp only [maxLen]; omega) (by omega) fun p6 c6 w2 h3 => ?_
  · obtain ⟨y, _, hu⟩ := List.mem_flatMap.1 hu
    exact spotF_one y u hu
  rw [Nat.zero_add] at h3 ⊢
  have h3 : Sat w₀ (tab TSpot 3 spotF p6 s.sp.length c6 s.sp * (B 0 * F)) w2 := h3
  refine ⟨fun n w m => 0 ≤ n ∧ n ≤ s.sp.length ∧ m = s.sp.length - n.toNat ∧ Sat w₀ (tab TSpot 3 spotF p6 s.sp.length c6 s.sp * (B (liveFrom 0 (s.sp.take n.toNat)).length * F)) w, ⟨_, by omega, by omega, rfl, h3⟩, ?_⟩
  rintro u n w3 m ⟨h0, h1, rfl, h4⟩
  refine br_dec (fun hlt => ?_) (fun hge => .inl ?_)
  · obtain ⟨i, rfl⟩ : ∃ i : Nat, n = i := ⟨n.toNat, by omega⟩
    rw [Int.toNat_natCast] at h4
    have hi : i < s.sp.length := by omega
    obtain ⟨y, hy0⟩ : ∃ y, s.sp[i]? = some y := ⟨s.sp[i], by simp [hi]⟩
    have hy' : s.sp[(i : Int).toNat]? = some y := by rw [Int.toNat_natCast]; exact hy0
    have hgy := hs.g y (List.mem_of_getElem? hy0)
    have e1 : ((i : Int) + 1).toNat = i + 1 := by omega
    have e2 : s.sp.take (i + 1) = s.sp.take i ++ [y] := by rw [List.take_add_one, hy0]; rfl
    have e3 : (s.sp.take i).length = i := by rw [List.length_take]; omega
    refine tab_idx spotF_len h4.left (by decide) (by omega) hy' fun g hg => ldA_ok (vs := (spotF y).toArray) rfl (fun j hj => ?_) <| new_ok h4 fun k3 w4 h5 => stA_ok h5 rfl rfl (fun u hu => spotF_one y u hu) fun w5 h6 => ?_
    · rw [Int.toNat_natCast]
      exact (tab_cell spotF_len (j := j) (v := (spotF y)[j]'(by rw [spotF_len]; exact hj)) h4.left hg hy0 hj (by simp [spotF_len, hj])).trans (by simp [spotF_len, hj])
    have h6 := h6.drew
    have cl : ∀ (j : Nat) {v : Value}, (spotF y).toArray[j]? = some v → w5.drew.cell? ((⟨k3, 0, none⟩ : Addr).add j) = some v := by
      intro j v hv
      rw [add_mk, Nat.zero_add]
      exact h6.left.cell hv
    refine ldB_ok (cl 2 rfl) <| br_split (fun ht => ?_) (fun hf => ?_)
    · have ht : y.st = 1 := by simpa using ht
      refine ldI_ok (cl 1 rfl) <| ldP_ok (n := pvA y.x) (cl 0 rfl) <| call_pure (arena_handle_ok (i := i) (g := y.g) (by omega) (by omega) (by omega)) <| asI_ok ⟨cl 0 rfl, ?_⟩
      have hx : ((liveFrom 0 s.sp).map fun p => enc2 (pairOf p))[(liveFrom 0 (s.sp.take i)).length]? = some (enc2 (hd i y.g, y.x)) := by
        have e4 : s.sp = s.sp.take i ++ (y :: s.sp.drop (i + 1)) := by
          conv => lhs; rw [← List.take_append_drop i s.sp, List.drop_eq_getElem_cons hi]
          rw [List.getElem?_eq_getElem hi] at hy0
          cases hy0
          rfl
        have e5 : liveFrom 0 s.sp = liveFrom 0 (s.sp.take i) ++ (i, y) :: liveFrom (i + 1) (s.sp.drop (i + 1)) := by
          conv => lhs; rw [e4, liveFrom_more, e3, Nat.zero_add, liveFrom, if_pos ht]
        rw [List.getElem?_map, e5]
        simp [pairOf]
      refine callV_mono (hy _ _ hx (blk k3 (spotF y).toArray TSpot * (tab TSpot 3 spotF p6 s.sp.length c6 s.sp * F)) _ (h6.perm (by ac_rfl))) ?_
      rintro v w7 (⟨rfl, h7⟩ | ⟨rfl, h7⟩)
      · refine asB_ok <| br_false rfl <| arith_i64 (by omega) (by omega) ⟨_, ?_, by omega, by omega, rfl, ?_⟩
        · omega
        · rw [e1, e2, liveFrom_append, if_pos ht, List.length_append]
          exact (h7.perm (B := blk k3 (spotF y).toArray TSpot * (tab TSpot 3 spotF p6 s.sp.length c6 s.sp * (B ((liveFrom 0 (s.sp.take i)).length + 1) * F))) (by ac_rfl)).right
      · exact asB_ok <| br_true rfl <| .inr ((h7.perm (B := (blk k3 (spotF y).toArray TSpot * tab TSpot 3 spotF p6 s.sp.length c6 s.sp) * (Bx * F)) (by ac_rfl)).right)
    · have hf : y.st ≠ 1 := by simpa using hf
      refine arith_i64 (by omega) (by omega) ⟨_, by omega, by omega, by omega, rfl, ?_⟩
      rw [e1, e2, liveFrom_append, if_neg hf, List.append_nil]
      exact h6.right
  · have e : s.sp.take n.toNat = s.sp := by rw [List.take_of_length_le]; omega
    rw [e] at h4
    rw [List.length_map]
    exact h4.right
end Go.Proofs.Ytgchemgnmijpdaa
