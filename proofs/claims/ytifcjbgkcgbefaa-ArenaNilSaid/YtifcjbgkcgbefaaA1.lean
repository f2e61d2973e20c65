/- Contracts of layer 2 (arena): what an arena is, and its calls. No conditions. -/
import Derived.Test.YtifcjbgkcgbefaaG0
import Derived.Test.YtifcjbgkcgbefaaSp9
set_option linter.unusedVariables false
set_option linter.unusedSimpArgs false
namespace Go.Proofs.Ytifcjbgkcgbefaa
open Go.Sp Go.RowKit

structure Spot where
  x : Int
  g : Int
  st : Int
def spotF (y : Spot) : List Value := [.int .i64 y.x, .int .u32 y.g, .bool (y.st == 1)]
theorem spotF_len (y : Spot) : (spotF y).length = 3 := rfl
theorem spotF_one (y : Spot) : ∀ u ∈ spotF y, u.oneCell' = true := by simp [spotF, Value.oneCell']
structure AS where
  most : Int
  first : Int
  sp : List Spot
  fr : List Nat
  cnt : Nat
def Ar (a : Nat) (s : AS) : HP := ex fun p => ex fun l => ex fun c => ex fun q => ex fun m => ex fun d =>
  blk a #[.int .i64 s.most, .int .u32 s.first, .slice p l c, .slice q m d, .int .i64 s.cnt] T_arena_Arena_int_ * (tab T_arena_spot_int_ 3 spotF p l c s.sp * tab T_int 1 fNat q m d s.fr)
theorem Ar.open_ {w₀ w : World} {F : HP} {a : Nat} {s : AS} (h : Sat w₀ (Ar a s * F) w) : ∃ p c q d, Sat w₀ (blk a #[.int .i64 s.most, .int .u32 s.first, .slice p s.sp.length c, .slice q s.fr.length d, .int .i64 s.cnt] T_arena_Arena_int_ * (tab T_arena_spot_int_ 3 spotF p s.sp.length c s.sp * (tab T_int 1 fNat q s.fr.length d s.fr * F))) w := by
  obtain ⟨p, h⟩ := Sat.ex h
  obtain ⟨l, h⟩ := Sat.ex h
  obtain ⟨c, h⟩ := Sat.ex h
  obtain ⟨q, h⟩ := Sat.ex h
  obtain ⟨m, h⟩ := Sat.ex h
  obtain ⟨d, h⟩ := Sat.ex h
  have h := h.perm (B := blk a #[.int .i64 s.most, .int .u32 s.first, .slice p l c, .slice q m d, .int .i64 s.cnt] T_arena_Arena_int_ * (tab T_arena_spot_int_ 3 spotF p l c s.sp * (tab T_int 1 fNat q m d s.fr * F))) (by ac_rfl)
  have e1 := tab_len spotF_len (by decide) h.right.left
  have e2 := tab_len fNat_len (by decide) h.right.right.left
  subst e1 e2
  exact ⟨p, c, q, d, h⟩
theorem Ar.shut {w₀ w : World} {F : HP} {a l m : Nat} {most first : Int} {sp : List Spot} {fr : List Nat} {cnt : Nat} {p q : Option Addr} {c d : Nat}
    (h : Sat w₀ (blk a #[.int .i64 most, .int .u32 first, .slice p l c, .slice q m d, .int .i64 cnt] T_arena_Arena_int_ * (tab T_arena_spot_int_ 3 spotF p l c sp * (tab T_int 1 fNat q m d fr * F))) w) : Sat w₀ (Ar a ⟨most, first, sp, fr, cnt⟩ * F) w :=
  Sat.to_ex p (Sat.to_ex l (Sat.to_ex c (Sat.to_ex q (Sat.to_ex m (Sat.to_ex d (h.perm (by ac_rfl)))))))

structure AOk (s : AS) : Prop where
  most0 : 1 ≤ s.most
  most1 : s.most ≤ 65536
  first0 : 1 ≤ s.first
  first1 : s.first ≤ 4294967295
  len : (s.sp.length : Int) ≤ s.most
  g : ∀ y ∈ s.sp, 1 ≤ y.g ∧ y.g ≤ 4294967295
  fr : ∀ i ∈ s.fr, ∃ y, s.sp[i]? = some y ∧ y.st = 0
  nd : s.fr.Nodup
  cnt : s.cnt = s.sp.countP (·.st == 1)
  bound : s.cnt + s.fr.length ≤ s.sp.length

def hd (i : Nat) (g : Int) : Int := g * 4294967296 + i + 1
def put (s : AS) (x : Int) : AS × Int × Int :=
  match s.fr.getLast? with
  | some i => match s.sp[i]? with
    | some y => (⟨s.most, s.first, s.sp.set i ⟨x, y.g, 1⟩, s.fr.dropLast, s.cnt + 1⟩, hd i y.g, 0)
    | none => (s, 0, 3)
  | none => if (s.sp.length : Int) = s.most then (s, 0, 3) else (⟨s.most, s.first, s.sp ++ [⟨x, s.first, 1⟩], s.fr, s.cnt + 1⟩, hd s.sp.length s.first, 0)
theorem put_cases {s : AS} (hs : AOk s) (x : Int) :
    (∃ fr i y, s.fr = fr ++ [i] ∧ s.sp[i]? = some y ∧ y.st = 0 ∧ put s x = (⟨s.most, s.first, s.sp.set i ⟨x, y.g, 1⟩, fr, s.cnt + 1⟩, hd i y.g, 0)) ∨
    (s.fr = [] ∧ (s.sp.length : Int) = s.most ∧ put s x = (s, 0, 3)) ∨
    (s.fr = [] ∧ (s.sp.length : Int) < s.most ∧ put s x = (⟨s.most, s.first, s.sp ++ [⟨x, s.first, 1⟩], [], s.cnt + 1⟩, hd s.sp.length s.first, 0)) := by
  have hl := hs.len
  rcases List.eq_nil_or_concat s.fr with hf | ⟨fr, i, hf⟩
  · right
    by_cases he : (s.sp.length : Int) = s.most
    · exact .inl ⟨hf, he, by simp [put, hf, he]⟩
    · exact .inr ⟨hf, by omega, by simp [put, hf, he]⟩
  · left
    rw [List.concat_eq_append] at hf
    obtain ⟨y, hy, h0⟩ := hs.fr i (by simp [hf])
    exact ⟨fr, i, y, hf, hy, h0, by simp [put, hf, hy]⟩
def find (s : AS) (h : Int) : Option Nat :=
  if h % 4294967296 = 0 then none else
  match s.sp[(h % 4294967296 - 1).toNat]? with
  | some y => if y.st = 1 ∧ y.g = h / 4294967296 then some (h % 4294967296 - 1).toNat else none
  | none => none
theorem find_iff {s : AS} (hs : AOk s) {h : Int} {i : Nat} : find s h = some i ↔ ∃ y, s.sp[i]? = some y ∧ y.st = 1 ∧ h = hd i y.g := by
  have hl := hs.len
  have hm := hs.most1
  unfold find hd
  constructor
  · intro e
    split at e
    · cases e
    split at e
    · rename_i y hy
      split at e
      · rename_i hc
        cases e
        exact ⟨y, hy, hc.1, by omega⟩
      · cases e
    · cases e
  · rintro ⟨y, hy, h1, rfl⟩
    have hlt := (List.getElem?_eq_some_iff.1 hy).1
    have e1 : (y.g * 4294967296 + i + 1) % 4294967296 = i + 1 := by omega
    have e2 : (y.g * 4294967296 + i + 1) / 4294967296 = y.g := by omega
    have e3 : ((i : Int) + 1 - 1).toNat = i := by omega
    rw [e1, e2, e3, if_neg (by omega), hy]
    simp [h1]
def dropS (s : AS) (i : Nat) : AS :=
  match s.sp[i]? with
  | some y => if y.g < 4294967295 then ⟨s.most, s.first, s.sp.set i ⟨0, y.g + 1, 0⟩, s.fr ++ [i], s.cnt - 1⟩ else ⟨s.most, s.first, s.sp.set i ⟨0, y.g, 2⟩, s.fr, s.cnt - 1⟩
  | none => s

/-! ### the calls -/
theorem arena_New_ok {w₀ w : World} {F : HP} {most first : Int} (h : Sat w₀ F w) (h0 : 1 ≤ most) (h1 : most ≤ 65536) (h2 : first ≠ 0) :
    call Try.prog fn_arena_New #[.int .i64 most, .int .u32 first] w fun v w' => ∃ a, v = .tuple #[.pointer (some ⟨a, 0, none⟩), .int .i64 0] ∧ Sat w₀ (Ar a ⟨most, first, [], [], 0⟩ * F) w' := by
  apply arena_New_call
  unfold arena_New
  exact br_false (by simp; omega) <| br_false (by simp; omega) <| br_false (by simp; exact h2) <| new_ok h fun b w2 h2 => ⟨b, rfl, Ar.shut (l := 0) (m := 0) ((tab_nil T_arena_spot_int_ 3 spotF (tab_nil T_int 1 fNat h2)).perm (by ac_rfl))⟩
theorem arena_New_no {w : World} {most first : Int} (h0 : most < 1 ∨ most > 65536 ∨ first = 0) :
    PureCall Try.prog fn_arena_New #[.int .i64 most, .int .u32 first] (.tuple #[.pointer none, .int .i64 1]) := by
  intro w
  apply arena_New_call
  unfold arena_New
  refine br_dec (fun _ => ⟨rfl, rfl⟩) fun h1 => br_dec (fun _ => ⟨rfl, rfl⟩) fun h2 => ?_
  have : first = 0 := by omega
  exact br_true (by simp [this]) ⟨rfl, rfl⟩
theorem arena_Split_ok {h : Int} (h0 : 0 ≤ h) (h1 : h ≤ 18446744073709551615) : PureCall Try.prog fn_arena_Split #[.int .u64 h] (.tuple #[.int .i64 (h % 4294967296 - 1), .int .u32 (h / 4294967296)]) := by
  intro w
  apply arena_Split_call
  unfold arena_Split
  refine arith_u32_mod <| arith_i64 (by omega) (by omega) <| arith_i64 (by omega) (by omega) <| shr_ok (by omega) (by simp only [IntKind.bits]; omega) ?_
  have e : (2 : Int) ^ (32 : Int).toNat = 4294967296 := by decide
  rw [e]
  exact arith_u32 (by omega) (by omega) ⟨rfl, rfl⟩
theorem hd_or {i : Nat} {g : Int} (hi : i < 4294967295) (h0 : 0 ≤ g) (h1 : g ≤ 4294967295) : bitw .or .u64 (g * 2 ^ 32) ((i : Int) + 1) = hd i g := by
  obtain ⟨n, rfl⟩ : ∃ n : Nat, g = n := ⟨g.toNat, by omega⟩
  have := or_high (x := i + 1) (b := n) (i := 32) (by omega) (by omega) (by omega)
  have e1 : ((n * 2 ^ 32 : Nat) : Int) = (n : Int) * 2 ^ 32 := by simp
  rw [e1] at this
  rw [show (i : Int) + 1 = ((i + 1 : Nat) : Int) by omega, this, hd]
  omega
theorem arena_handle_ok {i : Nat} {g : Int} (hi : i < 4294967295) (h0 : 0 ≤ g) (h1 : g ≤ 4294967295) : PureCall Try.prog fn_arena_handle #[.int .i64 i, .int .u32 g] (.int .u64 (hd i g)) := by
  intro w
  apply arena_handle_call
  unfold arena_handle
  refine arith_u64 (by omega) (by omega) <| shl_u64 (n := 32) (by omega) (by omega) (by omega) <| arith_i64 (by omega) (by omega) <| arith_u64 (by omega) (by omega) ?_
  rw [hd_or hi h0 h1]
  exact ⟨rfl, rfl⟩
theorem arena_Len_ok {w₀ w : World} {F : HP} {a : Nat} {s : AS} (h : Sat w₀ (Ar a s * F) w) :
    call Try.prog fn_arena_Arena_Len #[.pointer (some ⟨a, 0, none⟩)] w fun v w' => v = .int .i64 s.cnt ∧ w' = w := by
  apply arena_Arena_Len_call
  unfold arena_Arena_Len
  obtain ⟨p, c, q, d, h⟩ := Ar.open_ h
  exact br_false rfl <| nn_ok <| ldI_ok (h.left.cell (i := 4) rfl) ⟨rfl, rfl⟩
theorem arena_find_ok {w₀ w : World} {F : HP} {a c : Nat} {s : AS} {p q : Option Addr} {m d : Nat} {h : Int} (hh : Sat w₀ (blk a #[.int .i64 s.most, .int .u32 s.first, .slice p s.sp.length c, .slice q m d, .int .i64 s.cnt] T_arena_Arena_int_ * (tab T_arena_spot_int_ 3 spotF p s.sp.length c s.sp * F)) w)
    (h0 : 0 ≤ h) (h1 : h ≤ 18446744073709551615) :
    call Try.prog fn_arena_Arena_find #[.pointer (some ⟨a, 0, none⟩), .int .u64 h] w fun v w' => w' = w ∧
      match find s h with
      | none => v = .tuple #[.pointer none, .int .i64 0]
      | some i => ∃ g, p = some ⟨g, 0, none⟩ ∧ v = .tuple #[.pointer (some ⟨g, i * 3, none⟩), .int .i64 i] := by
  apply arena_Arena_find_call
  unfold arena_Arena_find
  have hc : w.cell? ⟨a, 2, none⟩ = some (.slice p s.sp.length c) := hh.left.cell (i := 2) rfl
  refine call_pure (arena_Split_ok h0 h1) ⟨_, _, rfl, br_false rfl <| br_dec (fun hlt => ?_) (fun hge => nn_ok <| ldS_ok hc <| br_dec (fun hge2 => ?_) (fun hlt2 => nn_ok <| ldS_ok hc ?_))⟩
  · rw [find, if_pos (by omega)]
    exact ⟨rfl, rfl⟩
  · rw [find, if_neg (by omega), List.getElem?_eq_none (by omega)]
    exact ⟨rfl, rfl⟩
  · obtain ⟨y, hy⟩ : ∃ y, s.sp[(h % 4294967296 - 1).toNat]? = some y := ⟨s.sp[(h % 4294967296 - 1).toNat]'(by omega), by simp⟩
    have hT := hh.right.left
    refine tab_idx spotF_len hT (by decide) (by omega) hy fun g hg => ldB_ok (tab_cell spotF_len (j := 2) hT hg hy (by decide) rfl) <| br_split (fun hb => ?_) (fun hb => ldI_ok (tab_cell spotF_len (j := 1) hT hg hy (by decide) rfl) <| br_split (fun hn => ?_) (fun hn => ?_))
    · have hb : y.st ≠ 1 := by simpa using hb
      rw [find, if_neg (by omega), hy]
      simp [hb]
    · have hn : y.g ≠ h / 4294967296 := by simpa using hn
      rw [find, if_neg (by omega), hy]
      simp [hn]
    · have hb : y.st = 1 := by simpa using hb
      have hn : y.g = h / 4294967296 := by simpa using hn
      rw [find, if_neg (by omega), hy]
      simp only [hb, hn, and_self, if_true]
      refine ⟨trivial, g, hg, ?_⟩
      rw [Int.toNat_of_nonneg (by omega)]
theorem arena_Get_ok {w₀ w : World} {F : HP} {a : Nat} {s : AS} {h : Int} (hh : Sat w₀ (Ar a s * F) w) (h0 : 0 ≤ h) (h1 : h ≤ 18446744073709551615) :
    call Try.prog fn_arena_Arena_Get #[.pointer (some ⟨a, 0, none⟩), .int .u64 h] w fun v w' => w' = w ∧
      match (find s h).bind (s.sp[·]?) with
      | none => v = .tuple #[.int .i64 0, .int .i64 2]
      | some y => v = .tuple #[.int .i64 y.x, .int .i64 0] := by
  apply arena_Arena_Get_call
  unfold arena_Arena_Get
  obtain ⟨p, c, q, d, hh⟩ := Ar.open_ hh
  refine call_mono (arena_find_ok hh h0 h1) ?_
  cases hf : find s h with
  | none =>
    rintro _ w1 ⟨rfl, rfl⟩
    exact ⟨_, _, rfl, br_true rfl ⟨rfl, rfl⟩⟩
  | some i =>
    rintro _ w1 ⟨rfl, g, hg, rfl⟩
    have hy : ∃ y, s.sp[i]? = some y := by
      unfold find at hf
      split at hf
      · cases hf
      split at hf
      · rename_i y hy
        split at hf
        · cases hf; exact ⟨y, hy⟩
        · cases hf
      · cases hf
    obtain ⟨y, hy⟩ := hy
    rw [Option.bind_some, hy]
    exact ⟨_, _, rfl, br_false rfl <| nn_ok <| ldI_ok (tab_cell spotF_len (j := 0) hh.right.left hg hy (by decide) rfl) ⟨rfl, rfl⟩⟩
theorem spotsTy : SliceTy Try.prog T_sl_arena_spot_int T_arena_spot_int_ (.agg #[.int .i64 0, .int .u32 0, .bool false]) 3 16 := ⟨by kernel_rfl, by kernel_rfl, rfl, by decide⟩
theorem intsTy : SliceTy Try.prog T_sl_int T_int (.int .i64 0) 1 8 := ⟨by kernel_rfl, by kernel_rfl, rfl, by decide⟩
theorem u64sTy : SliceTy Try.prog T_sl_uint64 T_uint64 (.int .u64 0) 1 8 := ⟨by kernel_rfl, by kernel_rfl, rfl, by decide⟩
theorem arena_Put_ok {w₀ w : World} {F : HP} {a : Nat} {s : AS} {x : Int} (h : Sat w₀ (Ar a s * F) w) (hs : AOk s) :
    call Try.prog fn_arena_Arena_Put #[.pointer (some ⟨a, 0, none⟩), .int .i64 x] w fun v w' => v = .tuple #[.int .u64 (put s x).2.1, .int .i64 (put s x).2.2] ∧ Sat w₀ (Ar a (put s x).1 * F) w' := by
  apply arena_Arena_Put_call
  unfold arena_Arena_Put
  obtain ⟨p, c, q, d, h⟩ := Ar.open_ h
  have hl := hs.len
  have hm := hs.most1
  have hb := hs.bound
  refine br_false rfl <| nn_ok <| ldS_ok (h.left.cell (i := 2) rfl) ?_
  rcases put_cases hs x with ⟨fr, i, y, hfr, hy, hst, hput⟩ | ⟨hfr, hfull, hput⟩ | ⟨hfr, hfull, hput⟩
  · have hlt := (List.getElem?_eq_some_iff.1 hy).1
    have hg := hs.g y (List.mem_of_getElem? hy)
    have hfl : s.fr.length = fr.length + 1 := by simp [hfr]
    refine ⟨fun n w => n = (i : Int) ∧ ∃ q' d', Sat w₀ (blk a #[.int .i64 s.most, .int .u32 s.first, .slice p s.sp.length c, .slice q' fr.length d', .int .i64 s.cnt] T_arena_Arena_int_ * (tab T_arena_spot_int_ 3 spotF p s.sp.length c s.sp * (tab T_int 1 fNat q' fr.length d' fr * F))) w, ?_, ?_⟩
    · refine nn_ok <| ldS_ok (h.left.cell (i := 3) rfl) <| br_true (by simp; omega) <| nn_ok <| ldS_ok (h.left.cell (i := 3) rfl) <| arith_i64 (by omega) (by omega) ?_
      have hlast : s.fr[((s.fr.length : Int) - 1).toNat]? = some i := by
        have e : ((s.fr.length : Int) - 1).toNat = fr.length := by omega
        rw [e, hfr]
        simp
      refine tab_idx fNat_len h.right.right.left (by decide) (by omega) hlast fun g hg => ldI_ok (tab_cell fNat_len (j := 0) h.right.right.left hg hlast (by decide) rfl) <| nn_ok <| ldS_ok (h.left.cell (i := 3) rfl) <| arith_i64 (by omega) (by omega) ?_
      have h3 := h.perm (B := tab T_int 1 fNat q s.fr.length d s.fr * (blk a #[.int .i64 s.most, .int .u32 s.first, .slice p s.sp.length c, .slice q s.fr.length d, .int .i64 s.cnt] T_arena_Arena_int_ * (tab T_arena_spot_int_ 3 spotF p s.sp.length c s.sp * F))) (by ac_rfl)
      refine slc_own (h3 : Sat w₀ (own T_int 1 q s.fr.length d (s.fr.flatMap fNat) * _) w) (by omega) (by omega) ?_
      have e : ((s.fr.length : Int) - 1).toNat = fr.length := by omega
      rw [e]
      have h4 := tab_cut fNat_len h3 (show fr.length ≤ s.fr.length by omega)
      rw [hfr, List.take_left' rfl] at h4
      refine nn_ok <| st_ok (i := 3) h4.p1 (by simp) fun w5 h5 => ⟨rfl, q, d, h5.perm ?_⟩
      show blk a #[.int .i64 s.most, .int .u32 s.first, .slice p s.sp.length c, .slice q fr.length d, .int .i64 s.cnt] T_arena_Arena_int_ * _ = _
      ac_rfl
    · rintro u n w5 ⟨rfl, q', d', h5⟩
      have hy' : s.sp[(i : Int).toNat]? = some y := by rw [Int.toNat_natCast]; exact hy
      refine nn_ok <| ldS_ok (h5.left.cell (i := 2) rfl) <| tab_idx spotF_len h5.right.left (by decide) (by omega) hy' fun g hg => ?_
      rw [Int.toNat_natCast]
      refine tab_st spotF_len (y' := ⟨x, y.g, y.st⟩) h5.p1 hg hy (by decide) rfl fun w6 h6 => ?_
      refine tab_st spotF_len (y := ⟨x, y.g, y.st⟩) (y' := ⟨x, y.g, 1⟩) h6 hg (by simp [hlt]) (by decide) rfl fun w7 h7 => ?_
      rw [List.set_set] at h7
      have h7 := h7.p1
      refine nn_ok <| ldI_ok (h7.left.cell (i := 4) rfl) <| arith_i64 (by omega) (by omega) <| nn_ok <| st_ok (i := 4) h7 (by simp) fun w8 h8 => ?_
      refine ldI_ok (tab_cell spotF_len (j := 1) (y := ⟨x, y.g, 1⟩) h8.right.left hg (by simp [hlt]) (by decide) rfl) <| call_pure (arena_handle_ok (i := i) (g := y.g) (by omega) (by omega) (by omega)) <| asI_ok ?_
      rw [hput]
      refine ⟨rfl, Ar.shut (l := s.sp.length) (m := fr.length) (p := p) (q := q') (c := c) (d := d') ?_⟩
      exact h8
  · rw [hput]
    refine ⟨fun _ _ => False, ?_, fun _ _ _ h => h.elim⟩
    refine nn_ok <| ldS_ok (h.left.cell (i := 3) rfl) <| br_false (by simp [hfr]) <| nn_ok <| ldI_ok (h.left.cell (i := 0) rfl) <| br_true (by simp [hfull]) ⟨rfl, ?_⟩
    exact Ar.shut h
  · have e0 : s.fr.length = 0 := by rw [hfr]; rfl
    refine ⟨fun n w => n = (s.sp.length : Int) ∧ ∃ p' c', Sat w₀ (blk a #[.int .i64 s.most, .int .u32 s.first, .slice p' (s.sp.length + 1) c', .slice q 0 d, .int .i64 s.cnt] T_arena_Arena_int_ * (tab T_arena_spot_int_ 3 spotF p' (s.sp.length + 1) c' (s.sp ++ [⟨0, s.first, 0⟩]) * (tab T_int 1 fNat q 0 d [] * F))) w, ?_, ?_⟩
    · rw [e0, hfr] at h
      have hd := h.drew
      refine nn_ok <| ldS_ok (h.left.cell (i := 3) rfl) <| br_false (by simp) <| nn_ok <| ldI_ok (h.left.cell (i := 0) rfl) <| br_false (by simp; omega) <| nn_ok <| ldS_ok (hd.left.cell (i := 2) rfl) <| nn_ok <| ldI_ok (hd.left.cell (i := 1) rfl) ⟨rfl, new_ok hd fun k w3 h3 => ?_⟩
      refine tab_app spotsTy spotF_len (by decide) spotF_one (x := ⟨0, s.first, 0⟩) (h3.perm (B := _ * (tab T_arena_spot_int_ 3 spotF p s.sp.length c s.sp * (blk a #[.int .i64 s.most, .int .u32 s.first, .slice p s.sp.length c, .slice q 0 d, .int .i64 s.cnt] T_arena_Arena_int_ * (tab T_int 1 fNat q 0 d [] * F)))) (by ac_rfl)) rfl (by simp only [maxLen]; omega) (by omega) fun p' c' w4 h4 => ?_
      refine nn_ok <| st_ok (i := 2) h4.p1 (by simp) fun w5 h5 => ⟨rfl, p', c', ?_⟩
      exact h5
    · rintro u n w5 ⟨rfl, p', c', h5⟩
      have hy : (s.sp ++ [⟨0, s.first, 0⟩])[s.sp.length]? = some (⟨0, s.first, 0⟩ : Spot) := by simp
      have hy' : (s.sp ++ [⟨0, s.first, 0⟩])[(s.sp.length : Int).toNat]? = some (⟨0, s.first, 0⟩ : Spot) := by simp
      have hf0 := hs.first0
      have hf1 := hs.first1
      refine nn_ok <| ldS_ok (h5.left.cell (i := 2) rfl) <| tab_idx spotF_len h5.right.left (by decide) (by omega) hy' fun g hg => ?_
      rw [Int.toNat_natCast]
      refine tab_st spotF_len (y' := ⟨x, s.first, 0⟩) h5.p1 hg hy (by decide) rfl fun w6 h6 => ?_
      refine tab_st spotF_len (y := ⟨x, s.first, 0⟩) (y' := ⟨x, s.first, 1⟩) h6 hg (by simp) (by decide) rfl fun w7 h7 => ?_
      rw [List.set_set] at h7
      have h7 := h7.p1
      refine nn_ok <| ldI_ok (h7.left.cell (i := 4) rfl) <| arith_i64 (by omega) (by omega) <| nn_ok <| st_ok (i := 4) h7 (by simp) fun w8 h8 => ?_
      refine ldI_ok (tab_cell spotF_len (j := 1) (y := ⟨x, s.first, 1⟩) h8.right.left hg (by simp) (by decide) rfl) <| call_pure (arena_handle_ok (i := s.sp.length) (g := s.first) (by omega) (by omega) (by omega)) <| asI_ok ?_
      rw [hput]
      refine ⟨rfl, Ar.shut (l := s.sp.length + 1) (m := 0) (p := p') (q := q) (c := c') (d := d) ?_⟩
      have e : (s.sp ++ [(⟨0, s.first, 0⟩ : Spot)]).set s.sp.length (⟨x, s.first, 1⟩ : Spot) = s.sp ++ [⟨x, s.first, 1⟩] := by simp
      rw [← e]
      exact h8
end Go.Proofs.Ytifcjbgkcgbefaa
