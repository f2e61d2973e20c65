/- Nets: keys of their maps; a row that loses one. No conditions. -/
import Derived.Test.YtjjnbcdcppnllaaP10
import Derived.Test.YtjjnbcdcppnllaaSpL
import Derived.Test.YtjjnbcdcppnllaaSpC
set_option linter.unusedVariables false
set_option linter.unusedSimpArgs false
set_option maxRecDepth 100000
namespace Go.Proofs.Ytjjnbcdcppnllaa
open Go.Sp Go.RowKit

abbrev Road := Int × Int
abbrev Mark := Road × Int
def rdA (x : Road) : Array Value := #[.int .i64 x.1, .int .i64 x.2]
def mkA (x : Mark) : Array Value := #[.int .i64 x.1.1, .int .i64 x.1.2, .int .u64 x.2]
def kR (x : Road) : Value := .agg (rdA x)
def kM (x : Mark) : Value := .agg (mkA x)
theorem partN {t : TypeId} {k : IntKind} (hu : Try.prog.underlying t = some (.int k)) {xs : Array Value} {i : Nat} {n : Int} (h : xs[i]? = some (.int k n)) (w : World) : (part t xs i).run Try.prog w = .ok (.int k n) w :=
  run_part hu (by unfold shapeOf; rw [hu]; simp) h w
theorem eq_road (d : Nat) (x y : Road) (w : World) : (Op.equalIn (d + 1 + 1) T_net_road (kR x) (kR y)).run Try.prog w = .ok (decide (x = y)) w := by
  have hp : Try.prog.stoodInHeld T_net_road = false := by kernel_rfl
  have hu := Try.underlying65
  have hfo' : ∀ {fs}, Try.prog.underlying T_net_road = some (.struct fs) → Try.prog.fieldsOf T_net_road = fs := by
    intro fs h
    unfold Program.fieldsOf
    rw [h]
  have hfo := hfo' hu
  unfold kR
  rw [run_equalIn_struct w (d + 1) T_net_road _ _ (by rw [hfo]; exact hu) hp, hfo]
  have hI := Try.underlying3
  have c0 : ∀ fs, (Op.eqFields (d + 1) (rdA x) (rdA y) (⟨"from", T_int, 0, false, "", "tenon/net", 0⟩ :: fs)).run Try.prog w = _ := fun fs => eqF_cons (by decide) (partN hI (i := 0) (n := x.1) rfl w) (partN hI (i := 0) (n := y.1) rfl w) (run_equalIn_int w d _ .i64 .i64 _ _ hI)
  have c1 : ∀ fs, (Op.eqFields (d + 1) (rdA x) (rdA y) (⟨"to", T_int, 1, false, "", "tenon/net", 8⟩ :: fs)).run Try.prog w = _ := fun fs => eqF_cons (by decide) (partN hI (i := 1) (n := x.2) rfl w) (partN hI (i := 1) (n := y.2) rfl w) (run_equalIn_int w d _ .i64 .i64 _ _ hI)
  refine (c0 _).trans ?_
  rw [c1]
  have c2 : (Op.eqFields (d + 1) (rdA x) (rdA y) []).run Try.prog w = .ok true w := by simp [Op.eqFields]
  rw [c2]
  obtain ⟨x1, x2⟩ := x
  obtain ⟨y1, y2⟩ := y
  dsimp only
  by_cases h1 : x1 = y1
  · by_cases h2 : x2 = y2
    · simp [h1, h2]
    · simp [h1, h2]
  · simp [h1]
theorem part_road (x : Mark) (w : World) : (part T_net_road (mkA x) 0).run Try.prog w = .ok (kR x.1) w := by
  have hu := Try.underlying65
  have hf : Try.prog.info? T_net_road = some (Try.prog.types[T_net_road]'(of_decide_eq_true (by kernel_rfl))) := by kernel_rfl
  have hsz : (Try.prog.types[T_net_road]'(of_decide_eq_true (by kernel_rfl))).size = 2 := by kernel_rfl
  have h1 : (mkA x).extract 0 (0 + 2) = rdA x.1 := rfl
  have := shapeOf_agg (P := Try.prog) (t := T_net_road) (by unfold shapeOf; rw [hu])
  unfold kR
  rw [← h1]
  simp [part, this, run_sizeOf' hf, hsz]
theorem eq_mark (d : Nat) (x y : Mark) (w : World) : (Op.equalIn (d + 1 + 1 + 1) T_net_mark (kM x) (kM y)).run Try.prog w = .ok (decide (x = y)) w := by
  have hp : Try.prog.stoodInHeld T_net_mark = false := by kernel_rfl
  have hu := Try.underlying72
  have hfo' : ∀ {fs}, Try.prog.underlying T_net_mark = some (.struct fs) → Try.prog.fieldsOf T_net_mark = fs := by
    intro fs h
    unfold Program.fieldsOf
    rw [h]
  have hfo := hfo' hu
  unfold kM
  rw [run_equalIn_struct w (d + 1 + 1) T_net_mark _ _ (by rw [hfo]; exact hu) hp, hfo]
  have hU := Try.underlying30
  have c0 : ∀ fs, (Op.eqFields (d + 1 + 1) (mkA x) (mkA y) (⟨"road", T_net_road, 0, false, "", "tenon/net", 0⟩ :: fs)).run Try.prog w = _ := fun fs => eqF_cons (by decide) (part_road x w) (part_road y w) (eq_road d _ _ w)
  have c1 : ∀ fs, (Op.eqFields (d + 1 + 1) (mkA x) (mkA y) (⟨"seq", T_uint64, 2, false, "", "tenon/net", 16⟩ :: fs)).run Try.prog w = _ := fun fs => eqF_cons (by decide) (partN hU (i := 2) (n := x.2) rfl w) (partN hU (i := 2) (n := y.2) rfl w) (run_equalIn_int w (d + 1) _ .u64 .u64 _ _ hU)
  refine (c0 _).trans ?_
  rw [c1]
  have c2 : (Op.eqFields (d + 1 + 1) (mkA x) (mkA y) []).run Try.prog w = .ok true w := by simp [Op.eqFields]
  rw [c2]
  obtain ⟨x1, x2⟩ := x
  obtain ⟨y1, y2⟩ := y
  dsimp only
  by_cases h1 : x1 = y1
  · by_cases h2 : x2 = y2
    · simp [h1, h2]
    · simp [h1, h2]
  · simp [h1]
theorem road_chk (n : Nat) (b : Bool) (x : Road) (w : World) : (Instr.checkKey b (n + 1 + 1) T_net_road (kR x)).run Try.prog w = .ok () w := by
  have hu := Try.underlying65
  have hI := Try.underlying3
  have p0 := partN hI (xs := rdA x) (i := 0) (n := x.1) rfl w
  have p1 := partN hI (xs := rdA x) (i := 1) (n := x.2) rfl w
  have i0 : ∀ m : Int, (Instr.checkKey b (n + 1) T_int (.int .i64 m)).run Try.prog w = .ok () w := fun m => by simp [Instr.checkKey, run_underlying hI]
  unfold kR
  rw [Instr.checkKey]
  simp [run_underlying hu, ← Array.forIn_toList, p0, p1, i0]
theorem mark_chk (n : Nat) (b : Bool) (x : Mark) (w : World) : (Instr.checkKey b (n + 1 + 1 + 1) T_net_mark (kM x)).run Try.prog w = .ok () w := by
  have hu := Try.underlying72
  have hU := Try.underlying30
  have p0 := part_road x w
  have p1 := partN hU (xs := mkA x) (i := 2) (n := x.2) rfl w
  have i0 := road_chk n b x.1 w
  have i1 : ∀ m : Int, (Instr.checkKey b (n + 1 + 1) T_uint64 (.int .u64 m)).run Try.prog w = .ok () w := fun m => by simp [Instr.checkKey, run_underlying hU]
  unfold kM
  rw [Instr.checkKey]
  simp [run_underlying hu, ← Array.forIn_toList, p0, p1, i0, i1]
theorem roadTy : KeyTy Try.prog 59 T_net_road T_uint64 kR (fun _ => True) := by
  refine keyAsk Try.underlying59 Try.underlying65 (fun b x w => ?_) (fun x y w => ?_) (fun x => ?_)
  · obtain ⟨n, hn⟩ : ∃ n, 10000 = n + 1 + 1 := ⟨9998, rfl⟩
    rw [hn]
    exact road_chk n b x w
  · obtain ⟨d, hd⟩ : ∃ d, Op.maxDepth = d + 1 + 1 := ⟨9998, by kernel_rfl⟩
    unfold Op.equal
    rw [hd]
    exact eq_road d x y w
  · simp [kR, rdA, Instr.sameBits]
theorem markTy : KeyTy Try.prog 60 T_net_mark 73 kM (fun _ => True) := by
  refine keyAsk Try.underlying60 Try.underlying72 (fun b x w => ?_) (fun x y w => ?_) (fun x => ?_)
  · obtain ⟨n, hn⟩ : ∃ n, 10000 = n + 1 + 1 + 1 := ⟨9997, rfl⟩
    rw [hn]
    exact mark_chk n b x w
  · obtain ⟨d, hd⟩ : ∃ d, Op.maxDepth = d + 1 + 1 + 1 := ⟨9997, by kernel_rfl⟩
    unfold Op.equal
    rw [hd]
    exact eq_mark d x y w
  · simp [kM, mkA, Instr.sameBits]
/-! ### a row of byte slices that loses one -/
structure BRow where
  p : Option Addr
  l : Nat
  c : Nat
def bsF (q : BRow) : List Value := [.slice q.p q.l q.c]
theorem bsF_len (q : BRow) : (bsF q).length = 1 := rfl
theorem bsF_one (q : BRow) : ∀ u ∈ bsF q, u.oneCell' = true := by simp [bsF, Value.oneCell']
theorem bssTy : SliceTy Try.prog T_sl_sl_uint8 T_sl_uint8 (.slice none 0 0) 1 24 := ⟨by kernel_rfl, by kernel_rfl, rfl, by decide⟩
theorem slices_Delete_ok {w₀ w : World} {F : HP} {p : Option Addr} {l c i : Nat} {rows : List BRow} (h : Sat w₀ (tab T_sl_uint8 1 bsF p l c rows * F) w) (hi : i < l) (hl : l ≤ 100000) :
    call Try.prog fn_slices_Delete #[.slice p l c, .int .i64 i, .int .i64 (i + 1 : Int)] w fun v w' => v = .slice p (l - 1) c ∧ Sat w₀ (tab T_sl_uint8 1 bsF p (l - 1) c (rows.eraseIdx i) * F) w' := by
  apply slices_Delete_call
  unfold slices_Delete
  have hrl := tab_len bsF_len (by decide) h.left
  have hown : Sat w₀ (own T_sl_uint8 1 p l c (rows.flatMap bsF) * F) w := h
  have hcap := hown.left.own_cap
  obtain ⟨g, hg⟩ : ∃ g, p = some ⟨g, 0, none⟩ := by
    rcases own_form hown.left with ⟨_, e⟩ | ⟨g, e⟩
    · omega
    · exact ⟨g, e⟩
  subst hg
  refine ⟨⟨by omega, by omega, by omega, by omega⟩, br_false (by simp; omega) ?_⟩
  refine slc_own (hi := (i : Int)) hown (by omega) (by omega) ?_
  have hd := h.drew
  have hback := tab_back bsF_len (by decide) hd.left (j := i + 1) (by omega)
  refine slc_ok (by omega) (by omega) (by omega) ?_
  have e1 : ((i : Int) + 1).toNat = i + 1 := by omega
  have e2 : ((l : Int)).toNat - ((i : Int) + 1).toNat = l - (i + 1) := by omega
  have e3 : ((i : Int)).toNat = i := by omega
  rw [e2, e1, e3]
  have hcut := tab_cut bsF_len hd (show i ≤ l by omega)
  have hq : ∃ a, (if c = i + 1 then some (⟨g, 0, none⟩ : Addr) else (some (⟨g, 0, none⟩ : Addr)).map (·.add ((i + 1) * 1))) = some a := by
    split
    · exact ⟨_, rfl⟩
    · exact ⟨_, rfl⟩
  obtain ⟨a, ha⟩ := hq
  rw [ha] at hback ⊢
  refine app_room_ok bssTy (h := (hcut : Sat w₀ (own T_sl_uint8 1 (some ⟨g, 0, none⟩) i c ((rows.take i).flatMap bsF) * F) w.drew)) hback (tab_mem bsF_one) (by omega) fun w1 h1 => ?_
  have el : i + (l - (i + 1)) = l - 1 := by omega
  rw [el] at h1 ⊢
  have hf : (rows.take i).flatMap bsF ++ (rows.drop (i + 1)).flatMap bsF = (rows.eraseIdx i).flatMap bsF := by rw [← List.flatMap_append, List.eraseIdx_eq_take_drop_succ]
  rw [hf] at h1
  refine slc_ok (by omega) (by omega) (by omega) ?_
  have e4 : ((l - 1 : Nat) : Int).toNat = l - 1 := by omega
  have e5 : ((l : Int)).toNat - ((l - 1 : Nat) : Int).toNat = 1 := by omega
  have e6 : (if c = ((l - 1 : Nat) : Int).toNat then some (⟨g, 0, none⟩ : Addr) else (some (⟨g, 0, none⟩ : Addr)).map (·.add (((l - 1 : Nat) : Int).toNat * 1))) = some ⟨g, (l - 1) * 1, none⟩ := by
    rw [e4, if_neg (by omega), Option.map_some, add_mk, Nat.zero_add]
  rw [e5, e6]
  exact clr_ok bssTy (by simp [Value.cells, Value.oneCell']) h1 (by decide) (by omega) fun w2 h2 => ⟨rfl, h2⟩
end Go.Proofs.Ytjjnbcdcppnllaa
