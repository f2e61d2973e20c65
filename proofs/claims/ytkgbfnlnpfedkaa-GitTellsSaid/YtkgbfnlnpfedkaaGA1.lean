/- Contracts of layer 2 (arena) at git's entries: what an arena is, and its calls. No conditions. -/
import Derived.Test.YtkgbfnlnpfedkaaOR
import Derived.Test.YtkgbfnlnpfedkaaATY
set_option linter.unusedVariables false
set_option linter.unusedSimpArgs false
set_option maxRecDepth 100000
namespace Go.Proofs.Ytkgbfnlnpfedkaa
open Go.Sp Go.RowKit

abbrev GE := Int × OR
def geF (e : GE) : List Value := .int .i64 e.1 :: orC e.2
theorem geF_len (e : GE) : (geF e).length = 37 := by simp [geF, orC_len]
theorem geF_one (e : GE) : ∀ u ∈ geF e, u.oneCell' = true := by
  intro u hu
  rcases List.mem_cons.1 hu with rfl | hu
  · rfl
  · exact orC_one _ u hu
def ge0 : GE := (0, or0)
def spotF (y : Spot GE) : List Value := geF y.x ++ [.int .u32 y.g, .bool (y.st == 1)]
theorem spotF_len (y : Spot GE) : (spotF y).length = 39 := by simp [spotF, geF_len]
theorem spotF_one (y : Spot GE) : ∀ u ∈ spotF y, u.oneCell' = true := by
  intro u hu
  rcases List.mem_append.1 hu with hu | hu
  · exact geF_one _ u hu
  · simp at hu
    rcases hu with rfl | rfl <;> rfl
theorem spotF_37 (y : Spot GE) : (spotF y)[37]? = some (.int .u32 y.g) := by
  rw [spotF, List.getElem?_append_right (by rw [geF_len]; decide), geF_len]; rfl
theorem spotF_38 (y : Spot GE) : (spotF y)[38]? = some (.bool (y.st == 1)) := by
  rw [spotF, List.getElem?_append_right (by rw [geF_len]; decide), geF_len]; rfl
theorem spotF_set37 (x : GE) (g g' st : Int) : spotF ⟨x, g', st⟩ = (spotF ⟨x, g, st⟩).set 37 (.int .u32 g') := by
  rw [spotF, spotF, List.set_append_right _ _ (by rw [geF_len]; decide), geF_len]; rfl
theorem spotF_set38 (x : GE) (g st st' : Int) {b : Bool} (hb : (st' == 1) = b) : spotF ⟨x, g, st'⟩ = (spotF ⟨x, g, st⟩).set 38 (.bool b) := by
  subst hb
  rw [spotF, spotF, List.set_append_right _ _ (by rw [geF_len]; decide), geF_len]; rfl
theorem spotF_setA (x y : GE) (g st : Int) : spotF ⟨x, g, st⟩ = (spotF ⟨y, g, st⟩).take 0 ++ ((geF x).toArray).toList ++ (spotF ⟨y, g, st⟩).drop (0 + 37) := by
  rw [spotF, spotF, List.take_zero, List.nil_append, Nat.zero_add, List.drop_append, geF_len, List.drop_of_length_le (by rw [geF_len]; exact Nat.le_refl _)]; rfl
theorem spotF_geF (y : Spot GE) : ((spotF y).drop 0).take 37 = geF y.x := by
  rw [spotF, List.drop_zero, List.take_append_of_le_length (by rw [geF_len]; exact Nat.le_refl _), List.take_of_length_le (by rw [geF_len]; exact Nat.le_refl _)]
theorem geF_size (e : GE) : ((geF e).toArray).size = 37 := by simp [geF_len]
theorem geF_oneA (e : GE) : ∀ u ∈ ((geF e).toArray).toList, u.oneCell' = true := geF_one e

def Ar (a : Nat) (s : AS GE) : HP := ex fun p => ex fun l => ex fun c => ex fun q => ex fun m => ex fun d =>
  blk a #[.int .i64 s.most, .int .u32 s.first, .slice p l c, .slice q m d, .int .i64 s.cnt] T_arena_Arena_git_entry_ * (tab T_arena_spot_git_entry_ 39 spotF p l c s.sp * tab T_int 1 fNat q m d s.fr)
theorem Ar.open_ {w₀ w : World} {F : HP} {a : Nat} {s : AS GE} (h : Sat w₀ (Ar a s * F) w) : ∃ p c q d, Sat w₀ (blk a #[.int .i64 s.most, .int .u32 s.first, .slice p s.sp.length c, .slice q s.fr.length d, .int .i64 s.cnt] T_arena_Arena_git_entry_ * (tab T_arena_spot_git_entry_ 39 spotF p s.sp.length c s.sp * (tab T_int 1 fNat q s.fr.length d s.fr * F))) w := by
  obtain ⟨p, h⟩ := Sat.ex h
  obtain ⟨l, h⟩ := Sat.ex h
  obtain ⟨c, h⟩ := Sat.ex h
  obtain ⟨q, h⟩ := Sat.ex h
  obtain ⟨m, h⟩ := Sat.ex h
  obtain ⟨d, h⟩ := Sat.ex h
  have h := h.perm (B := blk a #[.int .i64 s.most, .int .u32 s.first, .slice p l c, .slice q m d, .int .i64 s.cnt] T_arena_Arena_git_entry_ * (tab T_arena_spot_git_entry_ 39 spotF p l c s.sp * (tab T_int 1 fNat q m d s.fr * F))) (by ac_rfl)
  have e1 := tab_len spotF_len (by decide) h.right.left
  have e2 := tab_len fNat_len (by decide) h.right.right.left
  subst e1 e2
  exact ⟨p, c, q, d, h⟩
theorem Ar.shut {w₀ w : World} {F : HP} {a l m : Nat} {most first : Int} {sp : List (Spot GE)} {fr : List Nat} {cnt : Nat} {p q : Option Addr} {c d : Nat}
    (h : Sat w₀ (blk a #[.int .i64 most, .int .u32 first, .slice p l c, .slice q m d, .int .i64 cnt] T_arena_Arena_git_entry_ * (tab T_arena_spot_git_entry_ 39 spotF p l c sp * (tab T_int 1 fNat q m d fr * F))) w) : Sat w₀ (Ar a ⟨most, first, sp, fr, cnt⟩ * F) w :=
  Sat.to_ex p (Sat.to_ex l (Sat.to_ex c (Sat.to_ex q (Sat.to_ex m (Sat.to_ex d (h.perm (by ac_rfl)))))))

/-! ### the calls -/
theorem arena_New_ok {w₀ w : World} {F : HP} {most first : Int} (h : Sat w₀ F w) (h0 : 1 ≤ most) (h1 : most ≤ 65536) (h2 : first ≠ 0) :
    call Try.prog fn_arena_New #[.int .i64 most, .int .u32 first] w fun v w' => ∃ a, v = .tuple #[.pointer (some ⟨a, 0, none⟩), .int .i64 0] ∧ Sat w₀ (Ar a ⟨most, first, [], [], 0⟩ * F) w' := by
  apply arena_New_call
  unfold arena_New
  exact br_false (by simp; omega) <| br_false (by simp; omega) <| br_false (by simp; exact h2) <| new_ok h fun b w2 h2 => ⟨b, rfl, Ar.shut (l := 0) (m := 0) ((tab_nil T_arena_spot_git_entry_ 39 spotF (tab_nil T_int 1 fNat h2)).perm (by ac_rfl))⟩
theorem arena_New_no {w : World} {most first : Int} (h0 : most < 1 ∨ most > 65536 ∨ first = 0) :
    PureCall Try.prog fn_arena_New #[.int .i64 most, .int .u32 first] (.tuple #[.pointer none, .int .i64 1]) := by
  intro w
  apply arena_New_call
  unfold arena_New
  refine br_dec (fun _ => ⟨rfl, rfl⟩) fun h1 => br_dec (fun _ => ⟨rfl, rfl⟩) fun h2 => ?_
  have : first = 0 := by omega
  exact br_true (by simp [this]) ⟨rfl, rfl⟩
theorem arena_Split_ok {h : Int} (h0 : 0 ≤ h) (h1 : h ≤ 18446744073709551615) : PureCall Try.prog fn_arena_Split #[.int .u64 h] (.tuple #[.int .i64 (h % 4294967296 - 1), .int .u32 (h / 4294967296)]) := by
  intro w
  apply arena_Split_call
  unfold arena_Split
  refine arith_u32_mod <| arith_i64 (by omega) (by omega) <| arith_i64 (by omega) (by omega) <| shr_ok (by omega) (by simp only [IntKind.bits]; omega) ?_
  have e : (2 : Int) ^ (32 : Int).toNat = 4294967296 := by decide
  rw [e]
  exact arith_u32 (by omega) (by omega) ⟨rfl, rfl⟩
theorem hd_or {i : Nat} {g : Int} (hi : i < 4294967295) (h0 : 0 ≤ g) (h1 : g ≤ 4294967295) : bitw .or .u64 (g * 2 ^ 32) ((i : Int) + 1) = hd i g := by
  obtain ⟨n, rfl⟩ : ∃ n : Nat, g = n := ⟨g.toNat, by omega⟩
  have := or_high (x := i + 1) (b := n) (i := 32) (by omega) (by omega) (by omega)
  have e1 : ((n * 2 ^ 32 : Nat) : Int) = (n : Int) * 2 ^ 32 := by simp
  rw [e1] at this
  rw [show (i : Int) + 1 = ((i + 1 : Nat) : Int) by omega, this, hd]
  omega
theorem arena_handle_ok {i : Nat} {g : Int} (hi : i < 4294967295) (h0 : 0 ≤ g) (h1 : g ≤ 4294967295) : PureCall Try.prog fn_arena_handle #[.int .i64 i, .int .u32 g] (.int .u64 (hd i g)) := by
  intro w
  apply arena_handle_call
  unfold arena_handle
  refine arith_u64 (by omega) (by omega) <| shl_u64 (n := 32) (by omega) (by omega) (by omega) <| arith_i64 (by omega) (by omega) <| arith_u64 (by omega) (by omega) ?_
  rw [hd_or hi h0 h1]
  exact ⟨rfl, rfl⟩
theorem find_nil {h : Int} (h0 : 0 ≤ h) (h1 : h ≤ 18446744073709551615) : PureCall Try.prog fn_arena_Arena_find #[.pointer none, .int .u64 h] (.tuple #[.pointer none, .int .i64 0]) := by
  intro w
  apply arena_Arena_find_call
  unfold arena_Arena_find
  exact call_pure (arena_Split_ok h0 h1) ⟨_, _, rfl, br_true rfl ⟨rfl, rfl⟩⟩
theorem arena_find_ok {w₀ w : World} {F : HP} {a c : Nat} {s : AS GE} {p q : Option Addr} {m d : Nat} {h : Int} (hh : Sat w₀ (blk a #[.int .i64 s.most, .int .u32 s.first, .slice p s.sp.length c, .slice q m d, .int .i64 s.cnt] T_arena_Arena_git_entry_ * (tab T_arena_spot_git_entry_ 39 spotF p s.sp.length c s.sp * F)) w)
    (h0 : 0 ≤ h) (h1 : h ≤ 18446744073709551615) :
    call Try.prog fn_arena_Arena_find #[.pointer (some ⟨a, 0, none⟩), .int .u64 h] w fun v w' => w' = w ∧
      match find s h with
      | none => v = .tuple #[.pointer none, .int .i64 0]
      | some i => ∃ g, p = some ⟨g, 0, none⟩ ∧ v = .tuple #[.pointer (some ⟨g, i * 39, none⟩), .int .i64 i] := by
  apply arena_Arena_find_call
  unfold arena_Arena_find
  have hc : w.cell? ⟨a, 2, none⟩ = some (.slice p s.sp.length c) := hh.left.cell (i := 2) rfl
  refine call_pure (arena_Split_ok h0 h1) ⟨_, _, rfl, br_false rfl <| br_dec (fun hlt => ?_) (fun hge => nn_ok <| ldS_ok hc <| br_dec (fun hge2 => ?_) (fun hlt2 => nn_ok <| ldS_ok hc ?_))⟩
  · rw [find, if_pos (by omega)]
    exact ⟨rfl, rfl⟩
  · rw [find, if_neg (by omega), List.getElem?_eq_none (by omega)]
    exact ⟨rfl, rfl⟩
  · obtain ⟨y, hy⟩ : ∃ y, s.sp[(h % 4294967296 - 1).toNat]? = some y := ⟨s.sp[(h % 4294967296 - 1).toNat]'(by omega), by simp⟩
    have hT := hh.right.left
    refine tab_idx spotF_len hT (by decide) (by omega) hy fun g hg => ldB_ok (tab_cell spotF_len (j := 38) hT hg hy (by decide) (spotF_38 y)) <| br_split (fun hb => ?_) (fun hb => ldI_ok (tab_cell spotF_len (j := 37) hT hg hy (by decide) (spotF_37 y)) <| br_split (fun hn => ?_) (fun hn => ?_))
    · have hb : y.st ≠ 1 := by simpa using hb
      rw [find, if_neg (by omega), hy]
      simp [hb]
    · have hn : y.g ≠ h / 4294967296 := by simpa using hn
      rw [find, if_neg (by omega), hy]
      simp [hn]
    · have hb : y.st = 1 := by simpa using hb
      have hn : y.g = h / 4294967296 := by simpa using hn
      rw [find, if_neg (by omega), hy]
      simp only [hb, hn, and_self, if_true]
      refine ⟨trivial, g, hg, ?_⟩
      rw [Int.toNat_of_nonneg (by omega)]
theorem arena_Get_ok {w₀ w : World} {F : HP} {a : Nat} {s : AS GE} {h : Int} (hh : Sat w₀ (Ar a s * F) w) (hs : AOk s) (h0 : 0 ≤ h) (h1 : h ≤ 18446744073709551615) :
    call Try.prog fn_arena_Arena_Get #[.pointer (some ⟨a, 0, none⟩), .int .u64 h] w fun v w' => Sat w₀ (Ar a s * F) w' ∧
      match (find s h).bind (s.sp[·]?) with
      | none => v = .tuple #[.agg (geF ge0).toArray, .int .i64 2]
      | some y => v = .tuple #[.agg (geF y.x).toArray, .int .i64 0] := by
  apply arena_Arena_Get_call
  unfold arena_Arena_Get
  refine new_ok hh fun k w1 h2 => ?_
  obtain ⟨p, c, q, d, h3⟩ := Ar.open_ (h2.p1)
  refine call_mono (arena_find_ok h3 h0 h1) ?_
  rcases find_get hs h with ⟨hf, hb⟩ | ⟨i, y, hf, hy, h1, hb⟩
  · rw [hb, hf]
    rintro _ w2 ⟨rfl, rfl⟩
    refine ⟨_, _, rfl, br_true rfl <| new_ok h2 fun k2 w3 h4 => ldA_blk0 h4 rfl <| stA_ok (h4.p1) rfl rfl (geF_oneA ge0) fun w4 h5 => ldA_blk0 h5 rfl ⟨h5.right.right, rfl⟩⟩
  · rw [hb, hf]
    rintro _ w2 ⟨rfl, g, hg, rfl⟩
    have h6 := h3.perm (B := blk k (geF ge0).toArray T_git_entry * (tab T_arena_spot_git_entry_ 39 spotF p s.sp.length c s.sp * (blk a #[.int .i64 s.most, .int .u32 s.first, .slice p s.sp.length c, .slice q s.fr.length d, .int .i64 s.cnt] T_arena_Arena_git_entry_ * (tab T_int 1 fNat q s.fr.length d s.fr * F)))) (by
      show blk a _ _ * (tab _ _ _ _ _ _ _ * (tab _ _ _ _ _ _ _ * (blk k (geF ge0).toArray T_git_entry * F))) = _
      ac_rfl)
    refine ⟨_, _, rfl, br_false rfl <| nn_ok <| tab_ldA spotF_len (o := 0) (n := 37) h6.right.left hg hy (by decide) (spotF_geF y) <| stA_ok h6 rfl (geF_size _) (geF_oneA _) fun w4 h5 => ldA_blk0 h5 (geF_size _) ⟨Ar.shut h5.right.p1, rfl⟩⟩
theorem spotsTy : SliceTy Try.prog T_sl_arena_spot_git_entry T_arena_spot_git_entry_ (.agg (spotF ⟨ge0, 0, 0⟩).toArray) 39 72 := ⟨by kernel_rfl, by kernel_rfl, by simp [Value.cells, spotF_len], by decide⟩
end Go.Proofs.Ytkgbfnlnpfedkaa
