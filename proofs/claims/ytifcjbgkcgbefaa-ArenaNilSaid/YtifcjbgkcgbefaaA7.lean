/- ArenaPlays: the walk. No conditions. -/
import Derived.Test.YtifcjbgkcgbefaaA6
set_option linter.unusedVariables false
set_option linter.unusedSimpArgs false
namespace Go.Proofs.Ytifcjbgkcgbefaa
open Go.Sp Go.RowKit

def actF (x : ActD) : Array Value := #[.int .i64 x.kind, .int .i64 x.at_, .int .i64 x.x, .int .u64 x.raw]
theorem ActAt.ld {w : World} {a : Addr} {x : ActD} {K : Array Value → Prop} (ha : ActAt w a x) (hk : K (actF x)) : ldA a 4 w K := by
  refine ldA_ok (vs := actF x) rfl ?_ hk
  intro j hj
  match j, hj with
  | 0, _ => exact ha.c0
  | 1, _ => exact ha.c1
  | 2, _ => exact ha.c2
  | 3, _ => exact ha.c3
/-- A pair: both arenas, alike, and the handles that were given. -/
def Pr (b : Nat) (s : AS) (gs : List Int) : HP := ex fun a => ex fun r => ex fun p => ex fun l => ex fun c =>
  blk b #[.pointer (some ⟨a, 0, none⟩), .pointer (some ⟨r, 0, none⟩), .slice p l c] T_tenonlaw02_Pair * (tab T_uint64 1 fU64 p l c gs * (Ar a s * RAr r s))
theorem Pr.open_ {w₀ w : World} {F : HP} {b : Nat} {s : AS} {gs : List Int} (h : Sat w₀ (Pr b s gs * F) w) : ∃ a r p c, Sat w₀ (blk b #[.pointer (some ⟨a, 0, none⟩), .pointer (some ⟨r, 0, none⟩), .slice p gs.length c] T_tenonlaw02_Pair * (tab T_uint64 1 fU64 p gs.length c gs * (Ar a s * (RAr r s * F)))) w := by
  obtain ⟨a, h⟩ := Sat.ex h
  obtain ⟨r, h⟩ := Sat.ex h
  obtain ⟨p, h⟩ := Sat.ex h
  obtain ⟨l, h⟩ := Sat.ex h
  obtain ⟨c, h⟩ := Sat.ex h
  have h := h.perm (B := blk b #[.pointer (some ⟨a, 0, none⟩), .pointer (some ⟨r, 0, none⟩), .slice p l c] T_tenonlaw02_Pair * (tab T_uint64 1 fU64 p l c gs * (Ar a s * (RAr r s * F)))) (by ac_rfl)
  have e := tab_len fU64_len (by decide) h.right.left
  subst e
  exact ⟨a, r, p, c, h⟩
theorem Pr.shut {w₀ w : World} {F : HP} {b a r l : Nat} {p : Option Addr} {c : Nat} {s : AS} {gs : List Int} (h : Sat w₀ (blk b #[.pointer (some ⟨a, 0, none⟩), .pointer (some ⟨r, 0, none⟩), .slice p l c] T_tenonlaw02_Pair * (tab T_uint64 1 fU64 p l c gs * (Ar a s * (RAr r s * F)))) w) : Sat w₀ (Pr b s gs * F) w :=
  Sat.to_ex a (Sat.to_ex r (Sat.to_ex p (Sat.to_ex l (Sat.to_ex c (h.perm (by ac_rfl))))))

theorem put_zero {s : AS} {x : Int} (hs : AOk s) : ((put s x).2.1 = 0 ↔ (put s x).2.2 ≠ 0) := by
  rcases put_cases hs x with ⟨fr, j, z, hfr, hz, hst, hput⟩ | ⟨hfr, hfull, hput⟩ | ⟨hfr, hfull, hput⟩
  · rw [hput]
    have hg := hs.g z (List.mem_of_getElem? hz)
    unfold hd
    simp
    omega
  · rw [hput]; simp
  · rw [hput]
    have h0 := hs.first0
    unfold hd
    simp
    omega
theorem find_get {s : AS} (hs : AOk s) (h : Int) : (find s h = none ∧ (find s h).bind (s.sp[·]?) = none) ∨ ∃ i y, find s h = some i ∧ s.sp[i]? = some y ∧ y.st = 1 ∧ (find s h).bind (s.sp[·]?) = some y := by
  cases hf : find s h with
  | none => exact .inl ⟨rfl, rfl⟩
  | some i =>
    obtain ⟨y, hy, h1, _⟩ := (find_iff hs).1 hf
    exact .inr ⟨i, y, rfl, hy, h1, by rw [Option.bind_some, hy]⟩

theorem put_most {s : AS} {x : Int} (hs : AOk s) : (put s x).1.most = s.most := by
  rcases put_cases hs x with ⟨fr, j, z, hfr, hz, hst, hput⟩ | ⟨hfr, hfull, hput⟩ | ⟨hfr, hfull, hput⟩ <;> rw [hput]
theorem dropS_most {s : AS} {i : Nat} {y : Spot} (hy : s.sp[i]? = some y) : (dropS s i).most = s.most := by
  rcases drop_cases hy with ⟨_, h⟩ | ⟨_, h⟩ <;> rw [h]
theorem Pair_do_ok {w₀ w : World} {F : HP} {b : Nat} {s : AS} {gs : List Int} {x : ActD} (h : Sat w₀ (Pr b s gs * F) w) (hs : AOk s) (hgs : ∀ g ∈ gs, 0 ≤ g ∧ g ≤ 18446744073709551615) (hgl : gs.length ≤ 1000)
    (k0 : -9223372036854775808 ≤ x.kind ∧ x.kind ≤ 9223372036854775807) (k1 : -9223372036854775808 ≤ x.at_ ∧ x.at_ ≤ 9223372036854775807) (k3 : 0 ≤ x.raw ∧ x.raw ≤ 18446744073709551615) :
    call Try.prog fn_tenonlaw02_Pair_do #[.pointer (some ⟨b, 0, none⟩), .agg (actF x)] w fun v w' => v = .bool true ∧ ∃ s' gs', (AOk s' ∧ s'.most = s.most) ∧ (∀ g ∈ gs', 0 ≤ g ∧ g ≤ 18446744073709551615) ∧ gs'.length ≤ gs.length + 1 ∧ Sat w₀ (Pr b s' gs' * F) w' := by
  apply tenonlaw02_Pair_do_call
  unfold tenonlaw02_Pair_do
  refine new_ok h fun k w1 h1 => ?_
  obtain ⟨a, r, p, c, h1⟩ := Pr.open_ (h1.perm (B := Pr b s gs * (blk k (actF x) T_tenonlaw02_Act * F)) (by ac_rfl))
  have h1 := h1.perm (B := blk k (actF x) T_tenonlaw02_Act * (blk b #[.pointer (some ⟨a, 0, none⟩), .pointer (some ⟨r, 0, none⟩), .slice p gs.length c] T_tenonlaw02_Pair * (tab T_uint64 1 fU64 p gs.length c gs * (Ar a s * (RAr r s * F))))) (by ac_rfl)
  have cl : ∀ {w G} (j : Nat) {v : Value}, Sat w₀ (blk k (actF x) T_tenonlaw02_Act * G) w → (actF x)[j]? = some v → w.cell? ((⟨k, 0, none⟩ : Addr).add j) = some v := by
    intro w G j v hw hv
    rw [add_mk, Nat.zero_add]
    exact hw.left.cell hv
  refine ldI_ok (cl 3 h1 rfl) ⟨fun hh w => (0 ≤ hh ∧ hh ≤ 18446744073709551615) ∧ Sat w₀ (blk k (actF x) T_tenonlaw02_Act * (blk b #[.pointer (some ⟨a, 0, none⟩), .pointer (some ⟨r, 0, none⟩), .slice p gs.length c] T_tenonlaw02_Pair * (tab T_uint64 1 fU64 p gs.length c gs * (Ar a s * (RAr r s * F))))) w, ?_, ?_⟩
  · refine ⟨fun d w => (d = true → 0 < gs.length) ∧ Sat w₀ (blk k (actF x) T_tenonlaw02_Act * (blk b #[.pointer (some ⟨a, 0, none⟩), .pointer (some ⟨r, 0, none⟩), .slice p gs.length c] T_tenonlaw02_Pair * (tab T_uint64 1 fU64 p gs.length c gs * (Ar a s * (RAr r s * F))))) w, ?_, ?_⟩
    · exact br_split (fun _ => nn_ok <| ldS_ok (h1.right.left.cell (i := 2) rfl) ⟨fun hd => by simpa using hd, h1⟩) (fun _ => ⟨fun h => by (cases h), h1⟩)
    · rintro u d w2 ⟨hd, h2⟩
      refine br_split (fun hb => ?_) (fun _ => ⟨k3, h2⟩)
      have hd := hd hb
      have h2 := h2.drew
      obtain ⟨k2, hp2, hk20, hk21, _⟩ := tenonref01_Pick_ok x.at_ gs.length k1.1 k1.2 (by omega) (by omega)
      have hk21 := hk21 (by omega)
      obtain ⟨y, hy⟩ : ∃ y, gs[k2.toNat]? = some y := ⟨gs[k2.toNat]'(by omega), by simp⟩
      refine nn_ok <| ldS_ok (h2.right.left.cell (i := 2) rfl) <| ldI_ok (cl 1 h2 rfl) <| nn_ok <| ldS_ok (h2.right.left.cell (i := 2) rfl) <| call_pure hp2 <| asI_ok ⟨h2.right.left.cell (i := 2) rfl, ?_⟩
      exact tab_idx fU64_len h2.right.right.left (by decide) hk20 hy fun g hg => ldI_ok (tab_cell fU64_len (j := 0) h2.right.right.left hg hy (by decide) rfl) ⟨hgs y (List.mem_of_getElem? hy), h2⟩
  rintro u hh w4 ⟨hr, h4⟩
  have shut : ∀ {w s' l c p gs'}, Sat w₀ (blk k (actF x) T_tenonlaw02_Act * (blk b #[.pointer (some ⟨a, 0, none⟩), .pointer (some ⟨r, 0, none⟩), .slice p l c] T_tenonlaw02_Pair * (tab T_uint64 1 fU64 p l c gs' * (Ar a s' * (RAr r s' * F))))) w → Sat w₀ (Pr b s' gs' * F) w := fun h => Pr.shut h.right
  obtain ⟨kk, hpk, hkk0, hkk1, _⟩ := tenonref01_Pick_ok x.kind 4 k0.1 k0.2 (by omega) (by omega)
  refine nn_ok <| ldP_ok (h4.right.left.cell (i := 1) rfl) <| call_mono (ref_At_ok h4.right.right.right.right hs) ?_
  rintro _ w5 ⟨rfl, rfl⟩
  refine asI_ok <| ldI_ok (cl 0 h4 rfl) <| call_pure hpk <| asI_ok <| br_split (fun _ => ?_) (fun _ => br_split (fun _ => ?_) (fun _ => br_split (fun _ => ?_) (fun _ => ?_)))
  · have h5 := h4.drew
    refine nn_ok <| ldP_ok (h5.right.left.cell (i := 0) rfl) <| ldI_ok (cl 2 h5 rfl) <| call_mono (arena_Put_ok (s := s) (x := x.x) (h5.perm (B := Ar a s * (blk k (actF x) T_tenonlaw02_Act * (blk b #[.pointer (some ⟨a, 0, none⟩), .pointer (some ⟨r, 0, none⟩), .slice p gs.length c] T_tenonlaw02_Pair * (tab T_uint64 1 fU64 p gs.length c gs * (RAr r s * F))))) (by ac_rfl)) hs) ?_
    rintro _ w6 ⟨rfl, h6⟩
    have h6 := h6.drew
    refine ⟨_, _, rfl, nn_ok <| ldP_ok (h6.right.right.left.cell (i := 1) rfl) <| ldI_ok (cl 2 h6.right rfl) <| call_mono (ref_Put_ok (s := s) (x := x.x) (h6.perm (B := RAr r s * (blk k (actF x) T_tenonlaw02_Act * (blk b #[.pointer (some ⟨a, 0, none⟩), .pointer (some ⟨r, 0, none⟩), .slice p gs.length c] T_tenonlaw02_Pair * (tab T_uint64 1 fU64 p gs.length c gs * (Ar a (put s x.x).1 * F))))) (by ac_rfl)) hs) ?_⟩
    rintro _ w7 ⟨rfl, h7⟩
    have h7 := h7.perm (B := blk k (actF x) T_tenonlaw02_Act * (blk b #[.pointer (some ⟨a, 0, none⟩), .pointer (some ⟨r, 0, none⟩), .slice p gs.length c] T_tenonlaw02_Pair * (tab T_uint64 1 fU64 p gs.length c gs * (Ar a (put s x.x).1 * (RAr r (put s x.x).1 * F))))) (by ac_rfl)
    have hz := put_zero (x := x.x) hs
    have hpr := put_range (x := x.x) hs
    refine asI_ok ⟨fun w => ∃ s' gs', (AOk s' ∧ s'.most = s.most) ∧ (∀ g ∈ gs', 0 ≤ g ∧ g ≤ 18446744073709551615) ∧ gs'.length ≤ gs.length + 1 ∧ Sat w₀ (Pr b s' gs' * F) w, ?_, ?_⟩
    · refine br_split (fun hne => ?_) (fun _ => ⟨_, gs, ⟨hs.put x.x, put_most hs⟩, hgs, by omega, shut h7⟩)
      refine nn_ok <| ldS_ok (h7.right.left.cell (i := 2) rfl) <| new_ok h7 fun k' w8 h8 => tab_app u64sTy fU64_len (by decide) fU64_one (x := (put s x.x).2.1) (h8.perm (B := _ * (tab T_uint64 1 fU64 p gs.length c gs * (blk b #[.pointer (some ⟨a, 0, none⟩), .pointer (some ⟨r, 0, none⟩), .slice p gs.length c] T_tenonlaw02_Pair * (blk k (actF x) T_tenonlaw02_Act * (Ar a (put s x.x).1 * (RAr r (put s x.x).1 * F)))))) (by ac_rfl)) rfl (by simp only [maxLen]; omega) (by omega) fun p' c' w9 h9 => ?_
      refine nn_ok <| st_ok (i := 2) h9.p1 (by simp) fun w10 h10 => ⟨_, gs ++ [(put s x.x).2.1], ⟨hs.put x.x, put_most hs⟩, fun g hg => ?_, by simp, ?_⟩
      · rcases List.mem_append.1 hg with hg | hg
        · exact hgs g hg
        · rw [List.mem_singleton] at hg
          subst hg
          exact ⟨hpr.1, hpr.2.1⟩
      · refine shut (p := p') (l := gs.length + 1) (c := c') (h10.perm ?_)
        show blk b #[.pointer (some ⟨a, 0, none⟩), .pointer (some ⟨r, 0, none⟩), .slice p' (gs.length + 1) c'] T_tenonlaw02_Pair * _ = _
        ac_rfl
    · rintro u w8 h8
      refine br_true (by simp) <| br_true ?_ <| br_split (fun he => ⟨rfl, h8⟩) (fun hne => ⟨?_, h8⟩)
      · by_cases he : (put s x.x).2.2 = 0
        · have : (put s x.x).2.1 ≠ 0 := fun e => hz.1 e he
          simp [he, this]
        · have : (put s x.x).2.1 = 0 := hz.2 he
          simp [he, this]
      · rcases hpr.2.2 with e | e
        · simp [e] at hne
        · simp [e]
  · refine nn_ok <| ldP_ok (h4.right.left.cell (i := 0) rfl) <| call_mono (arena_Get_ok h4.right.right.right hr.1 hr.2) ?_
    rcases find_get hs hh with ⟨hf, hb⟩ | ⟨i, y, hf, hy, h1, hb⟩
    · rw [hb, hf]
      rintro _ w6 ⟨rfl, rfl⟩
      exact ⟨_, _, rfl, br_true (by decide) <| br_true rfl ⟨rfl, s, gs, ⟨hs, rfl⟩, hgs, by omega, shut h4⟩⟩
    · rw [hb, hf]
      rintro _ w6 ⟨rfl, rfl⟩
      have hlt := (hs.len)
      obtain ⟨p5, c5, q5, d5, h5⟩ := RAr.open_ (h4.right.right.right.right)
      have hy' : s.sp[(i : Int).toNat]? = some y := by rw [Int.toNat_natCast]; exact hy
      refine ⟨_, _, rfl, br_false (by simp) <| nn_ok <| ldP_ok (h4.right.left.cell (i := 1) rfl) <| nn_ok <| ldS_ok (h5.left.cell (i := 2) rfl) <| tab_idx refF_len h5.right.left (by decide) (by show (0 : Int) ≤ i; omega) hy' fun g hg => ldI_ok (tab_cell refF_len (j := 0) h5.right.left hg hy' (by decide) rfl) <| br_true (by simp) ⟨rfl, s, gs, ⟨hs, rfl⟩, hgs, by omega, shut h4⟩⟩
  · have h5 := h4.drew
    refine nn_ok <| ldP_ok (h5.right.left.cell (i := 0) rfl) <| ldI_ok (cl 2 h5 rfl) <| call_mono (arena_Set_ok (s := s) (x := x.x) (h5.perm (B := Ar a s * (blk k (actF x) T_tenonlaw02_Act * (blk b #[.pointer (some ⟨a, 0, none⟩), .pointer (some ⟨r, 0, none⟩), .slice p gs.length c] T_tenonlaw02_Pair * (tab T_uint64 1 fU64 p gs.length c gs * (RAr r s * F))))) (by ac_rfl)) hs hr.1 hr.2) ?_
    rcases find_get hs hh with ⟨hf, hb⟩ | ⟨i, y, hf, hy, h1, hb⟩
    · rw [setR_none hf, hf]
      rintro _ w6 ⟨rfl, h6⟩
      exact asI_ok <| br_true (by decide) ⟨rfl, s, gs, ⟨hs, rfl⟩, hgs, by omega, shut (h6.perm (by ac_rfl))⟩
    · have hok := hs.setR hh x.x
      rw [setR_some hf hy] at hok ⊢
      rw [hf]
      rintro _ w6 ⟨rfl, h6⟩
      have h6 := h6.drew
      have hy' : s.sp[(i : Int).toNat]? = some y := by rw [Int.toNat_natCast]; exact hy
      obtain ⟨p5, c5, q5, d5, h7⟩ := RAr.open_ (h6.perm (B := RAr r s * (blk k (actF x) T_tenonlaw02_Act * (blk b #[.pointer (some ⟨a, 0, none⟩), .pointer (some ⟨r, 0, none⟩), .slice p gs.length c] T_tenonlaw02_Pair * (tab T_uint64 1 fU64 p gs.length c gs * (Ar a ⟨s.most, s.first, s.sp.set i ⟨x.x, y.g, 1⟩, s.fr, s.cnt⟩ * F))))) (by ac_rfl))
      refine asI_ok <| br_false (by simp) <| nn_ok <| ldP_ok (h6.right.right.left.cell (i := 1) rfl) <| nn_ok <| ldS_ok (h7.left.cell (i := 2) rfl) <| ldI_ok (cl 2 h6.right rfl) <| tab_idx refF_len h7.right.left (by decide) (by show (0 : Int) ≤ i; omega) hy' fun g hg => ?_
      rw [Int.toNat_natCast]
      refine tab_st refF_len (y' := ⟨x.x, y.g, 1⟩) h7.p1 hg hy (by decide) (by simp [refF, h1]) fun w8 h8 => ⟨rfl, _, gs, ⟨hok, rfl⟩, hgs, by omega, ?_⟩
      exact shut (p := p) (l := gs.length) (c := c) ((RAr.shut h8.p1).perm (by ac_rfl))
  · refine nn_ok <| ldP_ok (h4.right.left.cell (i := 0) rfl) <| call_mono (arena_Drop_ok (s := s) (h4.perm (B := Ar a s * (blk k (actF x) T_tenonlaw02_Act * (blk b #[.pointer (some ⟨a, 0, none⟩), .pointer (some ⟨r, 0, none⟩), .slice p gs.length c] T_tenonlaw02_Pair * (tab T_uint64 1 fU64 p gs.length c gs * (RAr r s * F))))) (by ac_rfl)) hs hr.1 hr.2) ?_
    rcases find_get hs hh with ⟨hf, hb⟩ | ⟨i, y, hf, hy, h1, hb⟩
    · rw [dropR_none hf, hf]
      rintro _ w6 ⟨rfl, h6⟩
      exact ⟨_, _, rfl, br_true (by decide) <| br_true rfl ⟨rfl, s, gs, ⟨hs, rfl⟩, hgs, by omega, shut (h6.perm (by ac_rfl))⟩⟩
    · have hok := hs.drop hy h1
      rw [dropR_some hf hy, hf]
      rintro _ w6 ⟨rfl, h6⟩
      have hy' : s.sp[(i : Int).toNat]? = some y := by rw [Int.toNat_natCast]; exact hy
      have h7' := h6.perm (B := RAr r s * (blk k (actF x) T_tenonlaw02_Act * (blk b #[.pointer (some ⟨a, 0, none⟩), .pointer (some ⟨r, 0, none⟩), .slice p gs.length c] T_tenonlaw02_Pair * (tab T_uint64 1 fU64 p gs.length c gs * (Ar a (dropS s i) * F))))) (by ac_rfl)
      obtain ⟨p5, c5, q5, d5, h7⟩ := RAr.open_ h7'
      refine ⟨_, _, rfl, br_false (by simp) <| nn_ok <| ldP_ok (h6.right.right.left.cell (i := 1) rfl) <| nn_ok <| ldS_ok (h7.left.cell (i := 2) rfl) <| tab_idx refF_len h7.right.left (by decide) (by show (0 : Int) ≤ i; omega) hy' fun g hg => ldI_ok (tab_cell refF_len (j := 0) h7.right.left hg hy' (by decide) rfl) <| nn_ok <| ldP_ok (h6.right.right.left.cell (i := 1) rfl) <| call_mono (ref_Drop_ok h7' hs hy) ?_⟩
      rintro _ w8 ⟨rfl, h8⟩
      exact ⟨rfl, br_true (by simp) ⟨rfl, _, gs, ⟨hok, dropS_most hy⟩, hgs, by omega, shut (p := p) (l := gs.length) (c := c) (h8.perm (by ac_rfl))⟩⟩

theorem begun_ok {w₀ w : World} {F : HP} {most first : Int} (h : Sat w₀ F w) (h0 : 1 ≤ most) (h1 : most ≤ 65536) (h2 : 1 ≤ first) :
    call Try.prog fn_tenonlaw02_begun #[.int .i64 most, .int .u32 first] w fun v w' => ∃ b, v = .pointer (some ⟨b, 0, none⟩) ∧ Sat w₀ (Pr b ⟨most, first, [], [], 0⟩ [] * F) w' := by
  apply tenonlaw02_begun_call
  unfold tenonlaw02_begun
  refine call_mono (arena_New_ok h h0 h1 (by omega)) ?_
  rintro _ w1 ⟨a, rfl, h3⟩
  refine ⟨_, _, rfl, call_mono (ref_New_ok h3 h0 h1 (by omega)) ?_⟩
  rintro _ w2 ⟨r, rfl, h4⟩
  exact asP_ok <| br_false rfl <| br_false rfl <| new_ok h4 fun b w3 h5 => ⟨b, rfl, Pr.shut (l := 0) ((tab_nil T_uint64 1 fU64 h5).perm (by ac_rfl))⟩
theorem ArenaPlays_walk {W : World} {p : Option Addr} {l c : Nat} {xs : List ActD} {most first : Int} (hx : Acts W p l xs) (hl : l ≤ 9223372036854775807) (hf : 0 ≤ first ∧ first ≤ 4294967295) :
    call Try.prog fn_tenonlaw02_ArenaPlays #[.int .i64 most, .int .u32 first, .slice p l c] W fun v w' => v = .bool true ∧ Below W.heap.size W w' := by
  apply tenonlaw02_ArenaPlays_call
  unfold tenonlaw02_ArenaPlays
  by_cases hbad : most < 1 ∨ most > 65536 ∨ first = 0
  · refine call_pure (arena_New_no (w := W) hbad) ⟨_, _, rfl, call_pure (ref_New_no hbad) <| asP_ok <| br_true rfl <| br_true rfl <| br_true rfl <| call_mono (tenonlaw02_awake_ok (Sat.start W)) ?_⟩
    rintro _ w2 ⟨rfl, h2⟩
    exact asB_ok ⟨rfl, h2.below'⟩
  · refine call_mono (arena_New_ok (Sat.start W) (by omega) (by omega) (by omega)) ?_
    rintro _ w1 ⟨a, rfl, h1⟩
    refine ⟨_, _, rfl, call_mono (ref_New_ok h1.right (by omega) (by omega) (by omega)) ?_⟩
    rintro _ w2 ⟨r, rfl, h2⟩
    refine asP_ok <| br_false rfl <| call_mono (begun_ok h2.right (by omega) (by omega) (by omega)) ?_
    rintro _ w3 ⟨b, rfl, h3⟩
    have k1 := AOk.start (most := most) (first := first) (by omega) (by omega) (by omega) (by omega)
    have done : ∀ {w F}, Sat W (F * old W) w → call Try.prog fn_tenonlaw02_awake #[] w fun v w' => asB v fun b => (Value.bool b) = .bool true ∧ Below W.heap.size W w' := by
      intro w F h
      refine call_mono (tenonlaw02_awake_ok h) ?_
      rintro _ w2 ⟨rfl, h2⟩
      exact asB_ok ⟨rfl, h2.right.below'⟩
    refine asP_ok ⟨fun i w n => ∃ (s : AS) (gs : List Int), 0 ≤ i ∧ i ≤ 200 ∧ n = 200 - i.toNat ∧ gs.length ≤ i ∧ AOk s ∧ (∀ g ∈ gs, 0 ≤ g ∧ g ≤ 18446744073709551615) ∧ Sat W (Pr b s gs * old W) w, ⟨_, _, [], by omega, by omega, rfl, by simp, k1, by simp, h3⟩, ?_⟩
    rintro u i w4 n ⟨s, gs, h0, hi, rfl, hgl, hs, hgs, h4⟩
    refine br_dec (fun hlt => br_dec (fun hlt2 => br_true rfl ?_) (fun _ => br_true rfl <| br_true rfl <| done h4)) (fun _ => br_true rfl <| br_true rfl <| done h4)
    have h4 := h4.drew
    refine hx.idx h4.right h0 hlt fun a0 x hxa ha => ha.ld <| call_mono (Pair_do_ok h4 hs hgs (by omega) ha.k0 ha.k1 ha.k3) ?_
    rintro _ w5 ⟨rfl, s', gs', ⟨hs', _⟩, hgs', hgl', h5⟩
    obtain ⟨a, r, p', c', h6⟩ := Pr.open_ h5
    refine asB_ok <| br_false rfl <| nn_ok <| ldP_ok (h6.left.cell (i := 0) rfl) <| nn_ok <| ldP_ok (h6.left.cell (i := 1) rfl) <| call_mono (arena_Len_ok h6.right.right) ?_
    rintro _ w7 ⟨rfl, rfl⟩
    refine asI_ok ⟨h6.left.cell (i := 1) rfl, call_mono (ref_All_ok (h6.perm (B := RAr r s' * (blk b #[.pointer (some ⟨a, 0, none⟩), .pointer (some ⟨r, 0, none⟩), .slice p' gs'.length c'] T_tenonlaw02_Pair * (tab T_uint64 1 fU64 p' gs'.length c' gs' * (Ar a s' * old W)))) (by ac_rfl)) hs') ?_⟩
    rintro _ w8 ⟨p9, l9, c9, rfl, rfl, h9⟩
    exact asS_ok <| br_false (by simp) <| arith_i64 (by omega) (by omega) ⟨_, by omega, s', gs', by omega, by omega, rfl, by omega, hs', hgs', Pr.shut (p := p') (l := gs'.length) (c := c') (h9.right.perm (by ac_rfl))⟩
theorem ArenaPlays_row {W : World} {v : Value} {most first : Int} (hm : IntKind.i64.min ≤ most ∧ most ≤ IntKind.i64.max) (hf : IntKind.u32.min ≤ first ∧ first ≤ IntKind.u32.max) (h : ∃ p l c xs, v = .slice p l c ∧ l ≤ 9223372036854775807 ∧ Acts W p l xs) :
    call Try.prog fn_tenonlaw02_ArenaPlays #[.int .i64 most, .int .u32 first, v] W fun v w' => v = .bool true ∧ Below W.heap.size W w' := by
  simp [IntKind.min, IntKind.max, IntKind.signed, IntKind.bits] at hm hf
  obtain ⟨p, l, c, xs, rfl, hl, hx⟩ := h
  exact ArenaPlays_walk hx hl hf
end Go.Proofs.Ytifcjbgkcgbefaa
