/- The shallow forms of the functions of the translation, printed by a program of this repository, each proved sound. No conditions. -/
import Derived.Test.YtkgbfnlnpfedkaaChecked
import Derived.Test.YtkgbfnlnpfedkaaSp5
import Derived.Eval
set_option linter.unusedVariables false
namespace Go.Proofs.Ytkgbfnlnpfedkaa
open Go.Sp
theorem plain : Plain Try.prog := by
  have h : (Try.prog.funcs.toList.all fun fn => !(fn.name == "runtime.NumGoroutine")) = true := by kernel_rfl
  intro f fn hf
  have := List.all_eq_true.1 h fn (by simpa using Array.mem_of_getElem? hf)
  simpa using this
theorem mixed : Try.prog.follows .mixedOrders = true := Checked.mixed Try.checked
abbrev T_api_Errno : Nat := 24
abbrev T_api_Guid : Nat := 32
abbrev T_api_Objref : Nat := 34
abbrev T_tenonlaw19_Act : Nat := 37
abbrev T_tenonlaw19_Pair : Nat := 50
abbrev T_tenonref19_Table : Nat := 55
abbrev T_tenonref19_Entry : Nat := 61
abbrev T_git_entry : Nat := 72
abbrev T_git_Table : Nat := 74
abbrev T_iter_Seq2_uint64_git_entry_ : Nat := 78
abbrev T_tenonref02_Arena : Nat := 91
abbrev T_tenonref02_Spot : Nat := 93
abbrev T_iter_Seq2_uint64_api_Objref_ : Nat := 96
abbrev T_arena_Arena_git_entry_ : Nat := 100
abbrev T_arena_spot_git_entry_ : Nat := 102
abbrev T_int64 : Nat := 2
abbrev T_int : Nat := 3
abbrev T_bool : Nat := 4
abbrev T_uint8 : Nat := 5
abbrev T_string : Nat := 9
abbrev T_uintptr : Nat := 12
abbrev T_int32 : Nat := 21
abbrev T_sl_tenonlaw19_Act : Nat := 22
abbrev T_uint64 : Nat := 27
abbrev T_uint32 : Nat := 30
abbrev T_sl_api_Objref : Nat := 39
abbrev T_sl_uint64 : Nat := 48
abbrev T_sl_tenonref19_Entry : Nat := 53
abbrev T_sl_tenonref02_Spot : Nat := 88
abbrev T_sl_int : Nat := 89
abbrev T_sl_arena_spot_git_entry : Nat := 98
abbrev T_uint : Nat := 111
abbrev T_ptr_uint8 : Nat := 124
abbrev fn_tenonlaw19_GitKeeps : Nat := 3
abbrev fn_tenonlaw19_GitTells : Nat := 4
abbrev fn_tenonlaw19_GitPlays : Nat := 5
abbrev fn_tenonlaw19_GitNil : Nat := 6
abbrev fn_git_New : Nat := 7
abbrev fn_git_Table_Put : Nat := 8
abbrev fn_tenonlaw19_some : Nat := 9
abbrev fn_tenonref01_Pick : Nat := 10
abbrev fn_git_Table_Leave : Nat := 11
abbrev fn_git_Table_Drop : Nat := 12
abbrev fn_git_Table_Get : Nat := 13
abbrev fn_tenonlaw19_awake : Nat := 14
abbrev fn_tenonref19_New : Nat := 15
abbrev fn_tenonlaw19_Pair_do : Nat := 16
abbrev fn_tenonref02_Arena_All : Nat := 17
abbrev fn_tenonlaw19_told : Nat := 18
abbrev fn_tenonref01_SameLongs : Nat := 19
abbrev fn_tenonref19_Table_At : Nat := 20
abbrev fn_git_Table_Find : Nat := 21
abbrev fn_tenonref19_Table_Find : Nat := 22
abbrev fn_arena_New : Nat := 23
abbrev fn_objref_Check : Nat := 24
abbrev fn_arena_Arena_Put : Nat := 25
abbrev fn_arena_Arena_All : Nat := 26
abbrev fn_arena_Arena_Drop : Nat := 27
abbrev fn_arena_Arena_Get : Nat := 28
abbrev fn_tenonref02_New : Nat := 29
abbrev fn_tenonref19_Table_Put : Nat := 30
abbrev fn_tenonref19_Table_Drop : Nat := 31
abbrev fn_tenonref18_SameRefs : Nat := 32
abbrev fn_tenonref19_Table_Leave : Nat := 33
abbrev fn_tenonref02_Handle : Nat := 34
abbrev fn_git_Table_All : Nat := 35
abbrev fn_arena_handle : Nat := 36
abbrev fn_arena_Arena_All_1 : Nat := 37
abbrev fn_arena_Arena_find : Nat := 38
abbrev fn_tenonref07_Right : Nat := 39
abbrev fn_tenonref02_Arena_Put : Nat := 40
abbrev fn_tenonref02_Arena_Drop : Nat := 41
abbrev fn_tenonref02_Arena_At : Nat := 42
abbrev fn_git_Table_All_1 : Nat := 43
abbrev fn_arena_Split : Nat := 44

def tenonlaw19_GitKeeps (x0 : Option Addr) (y0 z0 : Nat) (x1 : Int) (R : Value → World → Prop) (w : World) : Prop :=
  call Try.prog 7 #[.int .i64 200] w fun v1 w1 =>
  ∃ (p2 : Option Addr) (n3 : Int),
  v1 = .tuple #[.pointer p2, .int .i64 n3] ∧
  call Try.prog 9 #[] w1 fun v4 w2 =>
  asA v4 fun g5 =>
  call Try.prog 8 #[.pointer p2, .int .i64 x1, .agg g5] w2 fun v6 w3 =>
  ∃ (n7 : Int) (n8 : Int),
  v6 = .tuple #[.int .u64 n7, .int .i64 n8] ∧
  br ((n3 : Int) != 0) (
  R (.bool false) w3) (
  br ((n8 : Int) != 0) (
  R (.bool false) w3) (
  ∃ J9 : World → Prop, (
  ∃ I10 : Int → World → Nat → Prop, (∃ m11, I10 0 w3 m11) ∧
  ∀ (u12 : Nat → Value) (n13 : Int) (w4 : World) (m14 : Nat), I10 n13 w4 m14 →
  br (decide ((n13 : Int) < (y0 : Int))) (
  br (decide ((n13 : Int) < 60)) (
  idx x0 y0 n13 40 fun a15 =>
  ldA a15 40 w4 fun g16 =>
  new #[.int .i64 0, .int .i64 0, .int .i64 0, .int .u32 0, .int .u32 0, .int .u64 0, .int .u64 0, .int .u8 0, .int .u8 0, .int .u8 0, .int .u8 0, .int .u8 0, .int .u8 0, .int .u8 0, .int .u8 0, .int .u8 0, .int .u8 0, .int .u8 0, .int .u8 0, .int .u8 0, .int .u8 0, .int .u8 0, .int .u8 0, .int .u8 0, .int .u8 0, .int .u8 0, .int .u8 0, .int .u8 0, .int .u8 0, .int .u8 0, .int .u8 0, .int .u8 0, .int .u8 0, .int .u8 0, .int .u8 0, .int .u8 0, .int .u8 0, .int .u8 0, .int .u8 0, .int .u64 0] 37 w4 fun k17 w5 =>
  stA Try.prog (⟨k17, 0, none⟩ : Addr) 40 g16 w5 fun w6 =>
  ∃ J18 : World → Prop, (
  ldI .i64 ((⟨k17, 0, none⟩ : Addr).add 0) w6 fun n19 =>
  call Try.prog 10 #[.int .i64 n19, .int .i64 3] w6 fun v20 w7 =>
  asI .i64 v20 fun n21 =>
  br ((n21 : Int) == 0) (
  ldI .i64 ((⟨k17, 0, none⟩ : Addr).add 2) w7 fun n22 =>
  ldA ((⟨k17, 0, none⟩ : Addr).add 3) 36 w7 fun g23 =>
  call Try.prog 8 #[.pointer p2, .int .i64 n22, .agg g23] w7 fun v24 w8 =>
  ∃ (n25 : Int) (n26 : Int),
  v24 = .tuple #[.int .u64 n25, .int .i64 n26] ∧
  J18  w8) (
  br ((n21 : Int) == 1) (
  ldI .i64 ((⟨k17, 0, none⟩ : Addr).add 2) w7 fun n27 =>
  br ((n27 : Int) != x1) (
  ldI .i64 ((⟨k17, 0, none⟩ : Addr).add 2) w7 fun n28 =>
  call Try.prog 11 #[.pointer p2, .int .i64 n28] w7 fun v29 w9 =>
  asS v29 fun p30 l30 c30 =>
  J18  w9) (
  J18  w7)) (
  ldI .u64 ((⟨k17, 0, none⟩ : Addr).add 39) w7 fun n31 =>
  br ((n31 : Int) != n7) (
  ldI .u64 ((⟨k17, 0, none⟩ : Addr).add 39) w7 fun n32 =>
  call Try.prog 12 #[.pointer p2, .int .u64 n32] w7 fun v33 w10 =>
  ∃ (g34 : Array Value) (n35 : Int),
  v33 = .tuple #[.agg g34, .int .i64 n35] ∧
  J18  w10) (
  J18  w7)))) ∧
  ∀ (u36 : Nat → Value)  (w11 : World), J18  w11 →
  call Try.prog 13 #[.pointer p2, .int .u64 n7] w11 fun v37 w12 =>
  ∃ (g38 : Array Value) (n39 : Int),
  v37 = .tuple #[.agg g38, .int .i64 n39] ∧
  new #[.int .u32 0, .int .u32 0, .int .u64 0, .int .u64 0, .int .u8 0, .int .u8 0, .int .u8 0, .int .u8 0, .int .u8 0, .int .u8 0, .int .u8 0, .int .u8 0, .int .u8 0, .int .u8 0, .int .u8 0, .int .u8 0, .int .u8 0, .int .u8 0, .int .u8 0, .int .u8 0, .int .u8 0, .int .u8 0, .int .u8 0, .int .u8 0, .int .u8 0, .int .u8 0, .int .u8 0, .int .u8 0, .int .u8 0, .int .u8 0, .int .u8 0, .int .u8 0, .int .u8 0, .int .u8 0, .int .u8 0, .int .u8 0] 34 w12 fun k40 w13 =>
  stA Try.prog (⟨k40, 0, none⟩ : Addr) 36 g38 w13 fun w14 =>
  br ((n39 : Int) != 0) (
  R (.bool false) w14.drew) (
  ldA (⟨k40, 0, none⟩ : Addr) 36 w14.drew fun g41 =>
  call Try.prog 9 #[] w14.drew fun v42 w15 =>
  asA v42 fun g43 =>
  keepS (cellsOf (⟨k40, 0, none⟩ : Addr) g41) w15 (
  still Try.prog (Op.equal 34 (.agg g41) (.agg g43)) fun b44 =>
  br (!b44) (
  R (.bool false) w15) (
  arith .i64 (n13 + 1) fun n45 =>
  ∃ m46, m46 < m14 ∧ I10 n45 w15 m46)))) (
  J9  w4)) (
  J9  w4)) ∧
  ∀ (u47 : Nat → Value)  (w16 : World), J9  w16 →
  call Try.prog 11 #[.pointer p2, .int .i64 x1] w16 fun v48 w17 =>
  asS v48 fun p49 l49 c49 =>
  call Try.prog 13 #[.pointer p2, .int .u64 n7] w17 fun v50 w18 =>
  ∃ (g51 : Array Value) (n52 : Int),
  v50 = .tuple #[.agg g51, .int .i64 n52] ∧
  new #[.int .u32 0, .int .u32 0, .int .u64 0, .int .u64 0, .int .u8 0, .int .u8 0, .int .u8 0, .int .u8 0, .int .u8 0, .int .u8 0, .int .u8 0, .int .u8 0, .int .u8 0, .int .u8 0, .int .u8 0, .int .u8 0, .int .u8 0, .int .u8 0, .int .u8 0, .int .u8 0, .int .u8 0, .int .u8 0, .int .u8 0, .int .u8 0, .int .u8 0, .int .u8 0, .int .u8 0, .int .u8 0, .int .u8 0, .int .u8 0, .int .u8 0, .int .u8 0, .int .u8 0, .int .u8 0, .int .u8 0, .int .u8 0] 34 w18 fun k53 w19 =>
  stA Try.prog (⟨k53, 0, none⟩ : Addr) 36 g51 w19 fun w20 =>
  ∃ I54 : Bool → Int → World → Nat → Prop, (∃ m55, I54 false 0 w20 m55) ∧
  ∀ (u56 : Nat → Value) (b57 : Bool) (n58 : Int) (w21 : World) (m59 : Nat), I54 b57 n58 w21 m59 →
  br (decide ((n58 : Int) < (l49 : Int))) (
  br b57 (
  arith .i64 (n58 + 1) fun n60 =>
  ∃ m61, m61 < m59 ∧ I54 true n60 w21.drew m61) (
  idx p49 l49 n58 36 fun a62 =>
  ldA a62 36 w21.drew fun g63 =>
  call Try.prog 9 #[] w21.drew fun v64 w22 =>
  asA v64 fun g65 =>
  keepS (cellsOf a62 g63) w22 (
  still Try.prog (Op.equal 34 (.agg g63) (.agg g65)) fun b66 =>
  arith .i64 (n58 + 1) fun n67 =>
  ∃ m68, m68 < m59 ∧ I54 b66 n67 w22 m68))) (
  br b57 (
  br ((n52 : Int) == 2) (
  call Try.prog 11 #[.pointer p2, .int .i64 x1] w21 fun v69 w23 =>
  asS v69 fun p70 l70 c70 =>
  br ((l70 : Int) == 0) (
  call Try.prog 14 #[] w23 fun v71 w24 =>
  asB v71 fun b72 =>
  R (.bool b72) w24) (
  R (.bool false) w23)) (
  R (.bool false) w21)) (
  R (.bool false) w21))))
@[irreducible] def tenonlaw19_GitKeeps_ann : Ann := .seq .none (.seq .none (.seq .none (.seq .none (.meet [] (.seq .none (.one (.loop [(9, .int .i64)] (.seq .none (.seq (.one (.seq .none (.meet [] .none (.seq .none (.seq (.draw [[], [0], [0, 1], [0, 1, 2], [0, 1, 2], [0, 1, 2, 3, 4], [0, 1, 2, 3, 4, 5]] (ol [0, 1, 2, 3, 4, 5, 6] .nil)) .none))))) .none))))) (.seq .none (.seq .none (.seq .none (.seq (.seq .none (.one (.loop [(16, .bool), (17, .int .i64)] (.seq .none (.seq (.one (.draw [[], [0], [0, 1], [0, 1], [0, 1, 2, 3], [0, 1, 2, 3, 4], [0, 1], [0, 1, 2, 3, 4, 5, 6], [0, 1, 2, 3, 4, 5, 6, 7], [0, 1, 2, 3, 4, 5, 6, 7, 8]] (ol [0, 1, 2, 3, 4, 5, 6, 7, 8, 9] .nil))) .none))))) .none))))))))
theorem tenonlaw19_GitKeeps_call {x0 : Option Addr} {y0 z0 : Nat} {x1 : Int} {R : Value → World → Prop} {w : World} (h : tenonlaw19_GitKeeps x0 y0 z0 x1 R w) : call Try.prog 3 #[.slice x0 y0 z0, .int .i64 x1] w R :=
  call_of_fnW plain mixed Try.func3 tenonlaw19_GitKeeps_ann (Eq.mp (by kernel_rfl : tenonlaw19_GitKeeps x0 y0 z0 x1 R w = fnW Try.prog Try.f3 tenonlaw19_GitKeeps_ann #[.slice x0 y0 z0, .int .i64 x1] R w) h)

def tenonlaw19_GitTells (x0 : Option Addr) (y0 z0 : Nat) (x1 : Int) (R : Value → World → Prop) (w : World) : Prop :=
  call Try.prog 7 #[.int .i64 20] w fun v1 w1 =>
  ∃ (p2 : Option Addr) (n3 : Int),
  v1 = .tuple #[.pointer p2, .int .i64 n3] ∧
  call Try.prog 15 #[.int .i64 20] w1 fun v4 w2 =>
  asP v4 fun p5 =>
  new #[.pointer p2, .pointer p5, .slice none 0 0] 50 w2 fun k6 w3 =>
  ∃ J7 : World → Prop, (
  ∃ I8 : Int → World → Nat → Prop, (∃ m9, I8 0 w3 m9) ∧
  ∀ (u10 : Nat → Value) (n11 : Int) (w4 : World) (m12 : Nat), I8 n11 w4 m12 →
  br (decide ((n11 : Int) < (y0 : Int))) (
  br (decide ((n11 : Int) < 80)) (
  idx x0 y0 n11 40 fun a13 =>
  ldA a13 40 w4 fun g14 =>
  call Try.prog 16 #[.pointer (some (⟨k6, 0, none⟩ : Addr)), .agg g14] w4 fun v15 w5 =>
  asB v15 fun b16 =>
  arith .i64 (n11 + 1) fun n17 =>
  ∃ m18, m18 < m12 ∧ I8 n17 w5 m18) (
  J7  w4)) (
  J7  w4)) ∧
  ∀ (u19 : Nat → Value)  (w6 : World), J7  w6 →
  ldP ((⟨k6, 0, none⟩ : Addr).add 1) w6 fun p20 =>
  nn p20 fun a21 =>
  ldP (a21.add 0) w6 fun p22 =>
  call Try.prog 17 #[.pointer p22] w6 fun v23 w7 =>
  asS v23 fun p24 l24 c24 =>
  call Try.prog 18 #[.pointer p2, .int .i64 99] w7 fun v25 w8 =>
  ∃ (p26 : Option Addr) (l26 c26 : Nat) (p27 : Option Addr) (l27 c27 : Nat),
  v25 = .tuple #[.slice p26 l26 c26, .slice p27 l27 c27] ∧
  arith .i64 ((l24 : Int) + 1) fun n28 =>
  call Try.prog 10 #[.int .i64 x1, .int .i64 n28] w8 fun v29 w9 =>
  asI .i64 v29 fun n30 =>
  call Try.prog 18 #[.pointer p2, .int .i64 n30] w9 fun v31 w10 =>
  ∃ (p32 : Option Addr) (l32 c32 : Nat) (p33 : Option Addr) (l33 c33 : Nat),
  v31 = .tuple #[.slice p32 l32 c32, .slice p33 l33 c33] ∧
  call Try.prog 19 #[.slice p26 l26 c26, .slice p24 l24 c24] w10 fun v34 w11 =>
  asB v34 fun b35 =>
  br (!b35) (
  R (.bool false) w11) (
  slc p24 c24 1 0 n30 fun p36 l36 c36 =>
  call Try.prog 19 #[.slice p32 l32 c32, .slice p36 l36 c36] w11 fun v37 w12 =>
  asB v37 fun b38 =>
  br (!b38) (
  R (.bool false) w12) (
  ∃ I39 : Int → World → Nat → Prop, (∃ m40, I39 0 w12 m40) ∧
  ∀ (u41 : Nat → Value) (n42 : Int) (w13 : World) (m43 : Nat), I39 n42 w13 m43 →
  br (decide ((n42 : Int) < (l26 : Int))) (
  idx p27 l27 n42 36 fun a44 =>
  ldA a44 36 w13.drew fun g45 =>
  ldP ((⟨k6, 0, none⟩ : Addr).add 1) w13.drew fun p46 =>
  nn p46 fun a47 =>
  ldS (a47.add 1) w13.drew fun p48 l48 c48 =>
  ldP ((⟨k6, 0, none⟩ : Addr).add 1) w13.drew fun p49 =>
  idx p26 l26 n42 1 fun a50 =>
  ldI .u64 a50 w13.drew fun n51 =>
  call Try.prog 20 #[.pointer p49, .int .u64 n51] w13.drew fun v52 w14 =>
  asI .i64 v52 fun n53 =>
  w14.cell? (a47.add 1) = some (.slice p48 l48 c48) ∧
  w14.cell? ((⟨k6, 0, none⟩ : Addr).add 1) = some (.pointer p46) ∧
  keepS (cellsOf a44 g45) w14 (
  idx p48 l48 n53 38 fun a54 =>
  ldA (a54.add 2) 36 w14 fun g55 =>
  still Try.prog (Op.equal 34 (.agg g45) (.agg g55)) fun b56 =>
  br (!b56) (
  R (.bool false) w14) (
  arith .i64 (n42 + 1) fun n57 =>
  ∃ m58, m58 < m43 ∧ I39 n57 w14 m58))) (
  call Try.prog 14 #[] w13 fun v59 w15 =>
  asB v59 fun b60 =>
  R (.bool b60) w15)))
@[irreducible] def tenonlaw19_GitTells_ann : Ann := .seq .none (.seq .none (.seq .none (.meet [] (.seq .none (.one (.loop [(8, .int .i64)] .none))) (.seq .none (.seq .none (.seq .none (.seq .none (.seq .none (.seq (.seq .none (.one (.loop [(15, .int .i64)] (.seq .none (.seq (.one (.seq (.draw [[], [], [0, 1], [0, 1, 2], [], [4], [4, 5], [4, 5, 6], [4, 5, 6, 7], [4, 5, 6, 7, 8], [4, 5, 6, 7, 8, 9], [], [11], [11, 12], [11, 12, 13], [], [], [15, 16], [15, 16, 17], [11, 12, 13, 14, 15, 16, 17, 18], [4, 5, 6, 7, 8, 9, 10, 11, 12, 13, 14, 15, 16, 17, 18, 19], [4, 5, 6, 7, 8, 9, 10, 11, 12, 13, 14, 15, 16, 17, 18, 19, 20], [4, 5, 6, 7, 8, 9, 10, 11, 12, 13, 14, 15, 16, 17, 18, 19, 20, 21], [0, 1, 2, 3, 4, 5, 6, 7, 8, 9, 10, 11, 12, 13, 14, 15, 16, 17, 18, 19, 20, 21, 22]] (ol [0, 1, 2, 3, 4, 5, 6, 7, 8, 9, 10, 11, 12, 13, 14, 15, 16, 17, 18, 19, 20, 21, 22, 23] .nil)) .none)) .none))))) .none)))))))))
theorem tenonlaw19_GitTells_call {x0 : Option Addr} {y0 z0 : Nat} {x1 : Int} {R : Value → World → Prop} {w : World} (h : tenonlaw19_GitTells x0 y0 z0 x1 R w) : call Try.prog 4 #[.slice x0 y0 z0, .int .i64 x1] w R :=
  call_of_fnW plain mixed Try.func4 tenonlaw19_GitTells_ann (Eq.mp (by kernel_rfl : tenonlaw19_GitTells x0 y0 z0 x1 R w = fnW Try.prog Try.f4 tenonlaw19_GitTells_ann #[.slice x0 y0 z0, .int .i64 x1] R w) h)

def tenonlaw19_GitPlays (x0 : Int) (x1 : Option Addr) (y1 z1 : Nat) (R : Value → World → Prop) (w : World) : Prop :=
  call Try.prog 7 #[.int .i64 x0] w fun v1 w1 =>
  ∃ (p2 : Option Addr) (n3 : Int),
  v1 = .tuple #[.pointer p2, .int .i64 n3] ∧
  call Try.prog 15 #[.int .i64 x0] w1 fun v4 w2 =>
  asP v4 fun p5 =>
  br p5.isNone (
  br ((n3 : Int) == 1) (
  br p2.isNone (
  call Try.prog 14 #[] w2 fun v6 w3 =>
  asB v6 fun b7 =>
  R (.bool b7) w3) (
  R (.bool false) w2)) (
  R (.bool false) w2)) (
  call Try.prog 15 #[.int .i64 x0] w2 fun v8 w4 =>
  asP v8 fun p9 =>
  new #[.pointer p2, .pointer p9, .slice none 0 0] 50 w4 fun k10 w5 =>
  ∃ I11 : Int → World → Nat → Prop, (∃ m12, I11 0 w5 m12) ∧
  ∀ (u13 : Nat → Value) (n14 : Int) (w6 : World) (m15 : Nat), I11 n14 w6 m15 →
  br (decide ((n14 : Int) < (y1 : Int))) (
  br (decide ((n14 : Int) < 150)) (
  idx x1 y1 n14 40 fun a16 =>
  ldA a16 40 w6 fun g17 =>
  call Try.prog 16 #[.pointer (some (⟨k10, 0, none⟩ : Addr)), .agg g17] w6 fun v18 w7 =>
  asB v18 fun b19 =>
  br (!b19) (
  R (.bool false) w7) (
  idx x1 y1 n14 40 fun a20 =>
  ldA (a20.add 3) 36 w7 fun g21 =>
  call Try.prog 21 #[.pointer p2, .agg g21] w7 fun v22 w8 =>
  ∃ (n23 : Int) (b24 : Bool),
  v22 = .tuple #[.int .u64 n23, .bool b24] ∧
  ldP ((⟨k10, 0, none⟩ : Addr).add 1) w8.drew fun p25 =>
  idx x1 y1 n14 40 fun a26 =>
  ldA (a26.add 3) 36 w8.drew fun g27 =>
  call Try.prog 22 #[.pointer p25, .agg g27] w8.drew fun v28 w9 =>
  asI .u64 v28 fun n29 =>
  br ((n23 : Int) != n29) (
  R (.bool false) w9) (
  br (!(b24 == ((n29 : Int) != 0))) (
  R (.bool false) w9) (
  arith .i64 (n14 + 1) fun n30 =>
  ∃ m31, m31 < m15 ∧ I11 n30 w9 m31)))) (
  br ((n3 : Int) == 0) (
  call Try.prog 14 #[] w6 fun v32 w10 =>
  asB v32 fun b33 =>
  R (.bool b33) w10) (
  R (.bool false) w6))) (
  br ((n3 : Int) == 0) (
  call Try.prog 14 #[] w6 fun v34 w11 =>
  asB v34 fun b35 =>
  R (.bool b35) w11) (
  R (.bool false) w6)))
@[irreducible] def tenonlaw19_GitPlays_ann : Ann := .seq .none (.seq .none (.seq .none (.seq .none (.seq (.seq .none (.one (.loop [(8, .int .i64)] (.seq .none (.seq (.one (.seq .none (.seq .none (.seq (.draw [[], [0], [0, 1], [0, 1, 2], [], [], [4, 5], [4, 5, 6], [4, 5, 6, 7], [0, 1, 2, 3, 4, 5, 6, 7, 8], [0, 1, 2, 3, 4, 5, 6, 7, 8, 9]] (ol [0, 1, 2, 3, 4, 5, 6, 7, 8, 9, 10] .nil)) .none)))) .none))))) .none))))
theorem tenonlaw19_GitPlays_call {x0 : Int} {x1 : Option Addr} {y1 z1 : Nat} {R : Value → World → Prop} {w : World} (h : tenonlaw19_GitPlays x0 x1 y1 z1 R w) : call Try.prog 5 #[.int .i64 x0, .slice x1 y1 z1] w R :=
  call_of_fnW plain mixed Try.func5 tenonlaw19_GitPlays_ann (Eq.mp (by kernel_rfl : tenonlaw19_GitPlays x0 x1 y1 z1 R w = fnW Try.prog Try.f5 tenonlaw19_GitPlays_ann #[.int .i64 x0, .slice x1 y1 z1] R w) h)

def tenonlaw19_GitNil (x0 : Int) (x1 : Int) (x2 : Array Value) (R : Value → World → Prop) (w : World) : Prop :=
  new x2 34 w fun k1 w1 =>
  ldA (⟨k1, 0, none⟩ : Addr) 36 w1 fun g2 =>
  call Try.prog 8 #[.pointer none, .int .i64 x1, .agg g2] w1 fun v3 w2 =>
  ∃ (n4 : Int) (n5 : Int),
  v3 = .tuple #[.int .u64 n4, .int .i64 n5] ∧
  call Try.prog 13 #[.pointer none, .int .u64 x0] w2 fun v6 w3 =>
  ∃ (g7 : Array Value) (n8 : Int),
  v6 = .tuple #[.agg g7, .int .i64 n8] ∧
  new #[.int .u32 0, .int .u32 0, .int .u64 0, .int .u64 0, .int .u8 0, .int .u8 0, .int .u8 0, .int .u8 0, .int .u8 0, .int .u8 0, .int .u8 0, .int .u8 0, .int .u8 0, .int .u8 0, .int .u8 0, .int .u8 0, .int .u8 0, .int .u8 0, .int .u8 0, .int .u8 0, .int .u8 0, .int .u8 0, .int .u8 0, .int .u8 0, .int .u8 0, .int .u8 0, .int .u8 0, .int .u8 0, .int .u8 0, .int .u8 0, .int .u8 0, .int .u8 0, .int .u8 0, .int .u8 0, .int .u8 0, .int .u8 0] 34 w3 fun k9 w4 =>
  stA Try.prog (⟨k9, 0, none⟩ : Addr) 36 g7 w4 fun w5 =>
  call Try.prog 12 #[.pointer none, .int .u64 x0] w5 fun v10 w6 =>
  ∃ (g11 : Array Value) (n12 : Int),
  v10 = .tuple #[.agg g11, .int .i64 n12] ∧
  new #[.int .u32 0, .int .u32 0, .int .u64 0, .int .u64 0, .int .u8 0, .int .u8 0, .int .u8 0, .int .u8 0, .int .u8 0, .int .u8 0, .int .u8 0, .int .u8 0, .int .u8 0, .int .u8 0, .int .u8 0, .int .u8 0, .int .u8 0, .int .u8 0, .int .u8 0, .int .u8 0, .int .u8 0, .int .u8 0, .int .u8 0, .int .u8 0, .int .u8 0, .int .u8 0, .int .u8 0, .int .u8 0, .int .u8 0, .int .u8 0, .int .u8 0, .int .u8 0, .int .u8 0, .int .u8 0, .int .u8 0, .int .u8 0] 34 w6 fun k13 w7 =>
  stA Try.prog (⟨k13, 0, none⟩ : Addr) 36 g11 w7 fun w8 =>
  ldA (⟨k1, 0, none⟩ : Addr) 36 w8 fun g14 =>
  call Try.prog 21 #[.pointer none, .agg g14] w8 fun v15 w9 =>
  ∃ (n16 : Int) (b17 : Bool),
  v15 = .tuple #[.int .u64 n16, .bool b17] ∧
  call Try.prog 18 #[.pointer none, .int .i64 9] w9 fun v18 w10 =>
  ∃ (p19 : Option Addr) (l19 c19 : Nat) (p20 : Option Addr) (l20 c20 : Nat),
  v18 = .tuple #[.slice p19 l19 c19, .slice p20 l20 c20] ∧
  br ((n4 : Int) == 0) (
  br ((n5 : Int) == 3) (
  br ((n8 : Int) == 2) (
  br ((n12 : Int) == 2) (
  call Try.prog 11 #[.pointer none, .int .i64 x1] w10 fun v21 w11 =>
  asS v21 fun p22 l22 c22 =>
  br ((l22 : Int) == 0) (
  br (!b17) (
  br ((l19 : Int) == 0) (
  call Try.prog 14 #[] w11 fun v23 w12 =>
  asB v23 fun b24 =>
  R (.bool b24) w12) (
  R (.bool false) w11)) (
  R (.bool false) w11)) (
  R (.bool false) w11)) (
  R (.bool false) w10)) (
  R (.bool false) w10)) (
  R (.bool false) w10)) (
  R (.bool false) w10)
@[irreducible] def tenonlaw19_GitNil_ann : Ann := .none
theorem tenonlaw19_GitNil_call {x0 : Int} {x1 : Int} {x2 : Array Value} {R : Value → World → Prop} {w : World} (h : tenonlaw19_GitNil x0 x1 x2 R w) : call Try.prog 6 #[.int .u64 x0, .int .i64 x1, .agg x2] w R :=
  call_of_fnW plain mixed Try.func6 tenonlaw19_GitNil_ann (Eq.mp (by kernel_rfl : tenonlaw19_GitNil x0 x1 x2 R w = fnW Try.prog Try.f6 tenonlaw19_GitNil_ann #[.int .u64 x0, .int .i64 x1, .agg x2] R w) h)

def git_New (x0 : Int) (R : Value → World → Prop) (w : World) : Prop :=
  call Try.prog 23 #[.int .i64 x0, .int .u32 1] w fun v1 w1 =>
  ∃ (p2 : Option Addr) (n3 : Int),
  v1 = .tuple #[.pointer p2, .int .i64 n3] ∧
  br ((n3 : Int) != 0) (
  R (.tuple #[.pointer none, .int .i64 n3]) w1) (
  new #[.pointer p2] 74 w1 fun k4 w2 =>
  R (.tuple #[.pointer (some (⟨k4, 0, none⟩ : Addr)), .int .i64 0]) w2)
@[irreducible] def git_New_ann : Ann := .none
theorem git_New_call {x0 : Int} {R : Value → World → Prop} {w : World} (h : git_New x0 R w) : call Try.prog 7 #[.int .i64 x0] w R :=
  call_of_fnW plain mixed Try.func7 git_New_ann (Eq.mp (by kernel_rfl : git_New x0 R w = fnW Try.prog Try.f7 git_New_ann #[.int .i64 x0] R w) h)

def git_Table_Put (x0 : Option Addr) (x1 : Int) (x2 : Array Value) (R : Value → World → Prop) (w : World) : Prop :=
  new x2 34 w fun k1 w1 =>
  br x0.isNone (
  R (.tuple #[.int .u64 0, .int .i64 3]) w1) (
  ldI .u32 ((⟨k1, 0, none⟩ : Addr).add 0) w1 fun n2 =>
  br ((n2 : Int) == 0) (
  R (.tuple #[.int .u64 0, .int .i64 1]) w1) (
  ldA (⟨k1, 0, none⟩ : Addr) 36 w1 fun g3 =>
  call Try.prog 24 #[.agg g3] w1 fun v4 w2 =>
  asI .i64 v4 fun n5 =>
  br ((n5 : Int) != 0) (
  R (.tuple #[.int .u64 0, .int .i64 1]) w2) (
  nn x0 fun a6 =>
  ldP (a6.add 0) w2.drew fun p7 =>
  ldA (⟨k1, 0, none⟩ : Addr) 36 w2.drew fun g8 =>
  (g8 : Array Value).size = 36 ∧
  call Try.prog 25 #[.pointer p7, .agg ((#[] ++ #[.int .i64 x1]) ++ g8)] w2.drew fun v9 w3 =>
  ∃ (n10 : Int) (n11 : Int),
  v9 = .tuple #[.int .u64 n10, .int .i64 n11] ∧
  R (.tuple #[.int .u64 n10, .int .i64 n11]) w3)))
@[irreducible] def git_Table_Put_ann : Ann := .seq .none (.seq .none (.seq (.draw [[], [0], [0, 1], [0, 1, 2], [], [], [4, 5], [0, 1, 2, 3, 4, 5, 6], [0, 1, 2, 3, 4, 5, 6, 7], [0, 1, 2, 3, 4, 5, 6, 7], [0, 1, 2, 3, 4, 5, 6, 7, 8, 9], [0, 1, 2, 3, 4, 5, 6, 7, 8, 9, 10]] (ol [0, 1, 2, 3, 4, 5, 6, 7, 8, 9, 10, 11] .nil)) .none))
theorem git_Table_Put_call {x0 : Option Addr} {x1 : Int} {x2 : Array Value} {R : Value → World → Prop} {w : World} (h : git_Table_Put x0 x1 x2 R w) : call Try.prog 8 #[.pointer x0, .int .i64 x1, .agg x2] w R :=
  call_of_fnW plain mixed Try.func8 git_Table_Put_ann (Eq.mp (by kernel_rfl : git_Table_Put x0 x1 x2 R w = fnW Try.prog Try.f8 git_Table_Put_ann #[.pointer x0, .int .i64 x1, .agg x2] R w) h)

def tenonlaw19_some  (R : Value → World → Prop) (w : World) : Prop :=
  new #[.int .u32 0, .int .u32 0, .int .u64 0, .int .u64 0, .int .u8 0, .int .u8 0, .int .u8 0, .int .u8 0, .int .u8 0, .int .u8 0, .int .u8 0, .int .u8 0, .int .u8 0, .int .u8 0, .int .u8 0, .int .u8 0, .int .u8 0, .int .u8 0, .int .u8 0, .int .u8 0, .int .u8 0, .int .u8 0, .int .u8 0, .int .u8 0, .int .u8 0, .int .u8 0, .int .u8 0, .int .u8 0, .int .u8 0, .int .u8 0, .int .u8 0, .int .u8 0, .int .u8 0, .int .u8 0, .int .u8 0, .int .u8 0] 34 w fun k1 w1 =>
  stA Try.prog (⟨k1, 0, none⟩ : Addr) 36 #[.int .u32 1, .int .u32 0, .int .u64 0, .int .u64 5, .int .u8 0, .int .u8 0, .int .u8 0, .int .u8 0, .int .u8 0, .int .u8 0, .int .u8 0, .int .u8 0, .int .u8 0, .int .u8 0, .int .u8 0, .int .u8 0, .int .u8 0, .int .u8 0, .int .u8 0, .int .u8 0, .int .u8 0, .int .u8 0, .int .u8 0, .int .u8 0, .int .u8 0, .int .u8 0, .int .u8 0, .int .u8 0, .int .u8 0, .int .u8 0, .int .u8 0, .int .u8 0, .int .u8 0, .int .u8 0, .int .u8 0, .int .u8 0] w1 fun w2 =>
  ldA (⟨k1, 0, none⟩ : Addr) 36 w2 fun g2 =>
  R (.agg g2) w2
@[irreducible] def tenonlaw19_some_ann : Ann := .none
theorem tenonlaw19_some_call  {R : Value → World → Prop} {w : World} (h : tenonlaw19_some  R w) : call Try.prog 9 #[] w R :=
  call_of_fnW plain mixed Try.func9 tenonlaw19_some_ann (Eq.mp (by kernel_rfl : tenonlaw19_some  R w = fnW Try.prog Try.f9 tenonlaw19_some_ann #[] R w) h)

def tenonref01_Pick (x0 : Int) (x1 : Int) (R : Value → World → Prop) (w : World) : Prop :=
  br (decide ((x1 : Int) < 1)) (
  R (.int .i64 0) w) (
  rem x0 x1 fun n1 =>
  br (decide ((n1 : Int) < 0)) (
  arith .i64 (n1 + x1) fun n2 =>
  R (.int .i64 n2) w) (
  R (.int .i64 n1) w))
@[irreducible] def tenonref01_Pick_ann : Ann := .none
theorem tenonref01_Pick_call {x0 : Int} {x1 : Int} {R : Value → World → Prop} {w : World} (h : tenonref01_Pick x0 x1 R w) : call Try.prog 10 #[.int .i64 x0, .int .i64 x1] w R :=
  call_of_fnW plain mixed Try.func10 tenonref01_Pick_ann (Eq.mp (by kernel_rfl : tenonref01_Pick x0 x1 R w = fnW Try.prog Try.f10 tenonref01_Pick_ann #[.int .i64 x0, .int .i64 x1] R w) h)

def git_Table_Leave (x0 : Option Addr) (x1 : Int) (R : Value → World → Prop) (w : World) : Prop :=
  new #[.pointer x0] 23 w fun k1 w1 =>
  new #[.int .i64 x1] 3 w1 fun k2 w2 =>
  ldP (⟨k1, 0, none⟩ : Addr) w2 fun p3 =>
  br p3.isNone (
  R (.slice none 0 0) w2) (
  new #[.slice none 0 0] 39 w2 fun k4 w3 =>
  ldP (⟨k1, 0, none⟩ : Addr) w3 fun p5 =>
  nn p5 fun a6 =>
  ldP (a6.add 0) w3 fun p7 =>
  call Try.prog 26 #[.pointer p7] w3 fun v8 w4 =>
  asF v8 fun f9 q9 t9 =>
  rangeW Try.prog (.func f9 q9 t9) 2 (fun xs10 N11 J12 T13 w5 => ∃ (n14 : Int) (g15 : Array Value), xs10 = #[.int .u64 n14, .agg g15] ∧
  new #[.int .i64 0, .int .u32 0, .int .u32 0, .int .u64 0, .int .u64 0, .int .u8 0, .int .u8 0, .int .u8 0, .int .u8 0, .int .u8 0, .int .u8 0, .int .u8 0, .int .u8 0, .int .u8 0, .int .u8 0, .int .u8 0, .int .u8 0, .int .u8 0, .int .u8 0, .int .u8 0, .int .u8 0, .int .u8 0, .int .u8 0, .int .u8 0, .int .u8 0, .int .u8 0, .int .u8 0, .int .u8 0, .int .u8 0, .int .u8 0, .int .u8 0, .int .u8 0, .int .u8 0, .int .u8 0, .int .u8 0, .int .u8 0, .int .u8 0] 72 w5 fun k16 w6 =>
  stA Try.prog (⟨k16, 0, none⟩ : Addr) 37 g15 w6 fun w7 =>
  T13 w7 fun w8 =>
  ldI .i64 ((⟨k16, 0, none⟩ : Addr).add 0) w8 fun n17 =>
  ldI .i64 (⟨k2, 0, none⟩ : Addr) w8 fun n18 =>
  br ((n17 : Int) == n18) (
  ldP (⟨k1, 0, none⟩ : Addr) w8 fun p19 =>
  nn p19 fun a20 =>
  ldP (a20.add 0) w8 fun p21 =>
  call Try.prog 27 #[.pointer p21, .int .u64 n14] w8 fun v22 w9 =>
  ∃ (g23 : Array Value) (n24 : Int),
  v22 = .tuple #[.agg g23, .int .i64 n24] ∧
  ldS (⟨k4, 0, none⟩ : Addr) w9 fun p25 l25 c25 =>
  ldA ((⟨k16, 0, none⟩ : Addr).add 1) 36 w9 fun g26 =>
  (g26 : Array Value).size = 36 ∧
  new g26 34 w9 fun k27 w10 =>
  runsS Try.prog (Builtin.append_ #[39, 39] 39 #[.slice p25 l25 c25, .slice (some (⟨k27, 0, none⟩ : Addr)) 1 1]) w10 fun p28 l28 c28 w11 =>
  st (⟨k4, 0, none⟩ : Addr) (.slice p28 l28 c28) w11 fun w12 =>
  N11 w12) (
  N11 w8)) (fun D29 w13 =>
  ldS (⟨k4, 0, none⟩ : Addr) w13 fun p30 l30 c30 =>
  shutD D29 w13 fun w14 =>
  R (.slice p30 l30 c30) w14) (fun D31 c32 w15 => jmp c32 (
  False) []) w4)
@[irreducible] def git_Table_Leave_ann : Ann := .seq .none (.seq .none (.seq .none (.seq (.seq .none (.one (.range [.int .u64, .agg] .none .none))) .none)))
theorem git_Table_Leave_call {x0 : Option Addr} {x1 : Int} {R : Value → World → Prop} {w : World} (h : git_Table_Leave x0 x1 R w) : call Try.prog 11 #[.pointer x0, .int .i64 x1] w R :=
  call_of_fnW plain mixed Try.func11 git_Table_Leave_ann (Eq.mp (by kernel_rfl : git_Table_Leave x0 x1 R w = fnW Try.prog Try.f11 git_Table_Leave_ann #[.pointer x0, .int .i64 x1] R w) h)

def git_Table_Drop (x0 : Option Addr) (x1 : Int) (R : Value → World → Prop) (w : World) : Prop :=
  new #[.int .u32 0, .int .u32 0, .int .u64 0, .int .u64 0, .int .u8 0, .int .u8 0, .int .u8 0, .int .u8 0, .int .u8 0, .int .u8 0, .int .u8 0, .int .u8 0, .int .u8 0, .int .u8 0, .int .u8 0, .int .u8 0, .int .u8 0, .int .u8 0, .int .u8 0, .int .u8 0, .int .u8 0, .int .u8 0, .int .u8 0, .int .u8 0, .int .u8 0, .int .u8 0, .int .u8 0, .int .u8 0, .int .u8 0, .int .u8 0, .int .u8 0, .int .u8 0, .int .u8 0, .int .u8 0, .int .u8 0, .int .u8 0] 34 w fun k1 w1 =>
  br x0.isNone (
  stA Try.prog (⟨k1, 0, none⟩ : Addr) 36 #[.int .u32 0, .int .u32 0, .int .u64 0, .int .u64 0, .int .u8 0, .int .u8 0, .int .u8 0, .int .u8 0, .int .u8 0, .int .u8 0, .int .u8 0, .int .u8 0, .int .u8 0, .int .u8 0, .int .u8 0, .int .u8 0, .int .u8 0, .int .u8 0, .int .u8 0, .int .u8 0, .int .u8 0, .int .u8 0, .int .u8 0, .int .u8 0, .int .u8 0, .int .u8 0, .int .u8 0, .int .u8 0, .int .u8 0, .int .u8 0, .int .u8 0, .int .u8 0, .int .u8 0, .int .u8 0, .int .u8 0, .int .u8 0] w1 fun w2 =>
  ldA (⟨k1, 0, none⟩ : Addr) 36 w2 fun g2 =>
  R (.tuple #[.agg g2, .int .i64 2]) w2) (
  nn x0 fun a3 =>
  ldP (a3.add 0) w1 fun p4 =>
  call Try.prog 27 #[.pointer p4, .int .u64 x1] w1 fun v5 w3 =>
  ∃ (g6 : Array Value) (n7 : Int),
  v5 = .tuple #[.agg g6, .int .i64 n7] ∧
  new #[.int .i64 0, .int .u32 0, .int .u32 0, .int .u64 0, .int .u64 0, .int .u8 0, .int .u8 0, .int .u8 0, .int .u8 0, .int .u8 0, .int .u8 0, .int .u8 0, .int .u8 0, .int .u8 0, .int .u8 0, .int .u8 0, .int .u8 0, .int .u8 0, .int .u8 0, .int .u8 0, .int .u8 0, .int .u8 0, .int .u8 0, .int .u8 0, .int .u8 0, .int .u8 0, .int .u8 0, .int .u8 0, .int .u8 0, .int .u8 0, .int .u8 0, .int .u8 0, .int .u8 0, .int .u8 0, .int .u8 0, .int .u8 0, .int .u8 0] 72 w3 fun k8 w4 =>
  stA Try.prog (⟨k8, 0, none⟩ : Addr) 37 g6 w4 fun w5 =>
  ldA ((⟨k8, 0, none⟩ : Addr).add 1) 36 w5 fun g9 =>
  stA Try.prog (⟨k1, 0, none⟩ : Addr) 36 g9 w5 fun w6 =>
  ldA (⟨k1, 0, none⟩ : Addr) 36 w6 fun g10 =>
  R (.tuple #[.agg g10, .int .i64 n7]) w6)
@[irreducible] def git_Table_Drop_ann : Ann := .none
theorem git_Table_Drop_call {x0 : Option Addr} {x1 : Int} {R : Value → World → Prop} {w : World} (h : git_Table_Drop x0 x1 R w) : call Try.prog 12 #[.pointer x0, .int .u64 x1] w R :=
  call_of_fnW plain mixed Try.func12 git_Table_Drop_ann (Eq.mp (by kernel_rfl : git_Table_Drop x0 x1 R w = fnW Try.prog Try.f12 git_Table_Drop_ann #[.pointer x0, .int .u64 x1] R w) h)

def git_Table_Get (x0 : Option Addr) (x1 : Int) (R : Value → World → Prop) (w : World) : Prop :=
  new #[.int .u32 0, .int .u32 0, .int .u64 0, .int .u64 0, .int .u8 0, .int .u8 0, .int .u8 0, .int .u8 0, .int .u8 0, .int .u8 0, .int .u8 0, .int .u8 0, .int .u8 0, .int .u8 0, .int .u8 0, .int .u8 0, .int .u8 0, .int .u8 0, .int .u8 0, .int .u8 0, .int .u8 0, .int .u8 0, .int .u8 0, .int .u8 0, .int .u8 0, .int .u8 0, .int .u8 0, .int .u8 0, .int .u8 0, .int .u8 0, .int .u8 0, .int .u8 0, .int .u8 0, .int .u8 0, .int .u8 0, .int .u8 0] 34 w fun k1 w1 =>
  br x0.isNone (
  stA Try.prog (⟨k1, 0, none⟩ : Addr) 36 #[.int .u32 0, .int .u32 0, .int .u64 0, .int .u64 0, .int .u8 0, .int .u8 0, .int .u8 0, .int .u8 0, .int .u8 0, .int .u8 0, .int .u8 0, .int .u8 0, .int .u8 0, .int .u8 0, .int .u8 0, .int .u8 0, .int .u8 0, .int .u8 0, .int .u8 0, .int .u8 0, .int .u8 0, .int .u8 0, .int .u8 0, .int .u8 0, .int .u8 0, .int .u8 0, .int .u8 0, .int .u8 0, .int .u8 0, .int .u8 0, .int .u8 0, .int .u8 0, .int .u8 0, .int .u8 0, .int .u8 0, .int .u8 0] w1 fun w2 =>
  ldA (⟨k1, 0, none⟩ : Addr) 36 w2 fun g2 =>
  R (.tuple #[.agg g2, .int .i64 2]) w2) (
  nn x0 fun a3 =>
  ldP (a3.add 0) w1 fun p4 =>
  call Try.prog 28 #[.pointer p4, .int .u64 x1] w1 fun v5 w3 =>
  ∃ (g6 : Array Value) (n7 : Int),
  v5 = .tuple #[.agg g6, .int .i64 n7] ∧
  new #[.int .i64 0, .int .u32 0, .int .u32 0, .int .u64 0, .int .u64 0, .int .u8 0, .int .u8 0, .int .u8 0, .int .u8 0, .int .u8 0, .int .u8 0, .int .u8 0, .int .u8 0, .int .u8 0, .int .u8 0, .int .u8 0, .int .u8 0, .int .u8 0, .int .u8 0, .int .u8 0, .int .u8 0, .int .u8 0, .int .u8 0, .int .u8 0, .int .u8 0, .int .u8 0, .int .u8 0, .int .u8 0, .int .u8 0, .int .u8 0, .int .u8 0, .int .u8 0, .int .u8 0, .int .u8 0, .int .u8 0, .int .u8 0, .int .u8 0] 72 w3 fun k8 w4 =>
  stA Try.prog (⟨k8, 0, none⟩ : Addr) 37 g6 w4 fun w5 =>
  ldA ((⟨k8, 0, none⟩ : Addr).add 1) 36 w5 fun g9 =>
  stA Try.prog (⟨k1, 0, none⟩ : Addr) 36 g9 w5 fun w6 =>
  ldA (⟨k1, 0, none⟩ : Addr) 36 w6 fun g10 =>
  R (.tuple #[.agg g10, .int .i64 n7]) w6)
@[irreducible] def git_Table_Get_ann : Ann := .none
theorem git_Table_Get_call {x0 : Option Addr} {x1 : Int} {R : Value → World → Prop} {w : World} (h : git_Table_Get x0 x1 R w) : call Try.prog 13 #[.pointer x0, .int .u64 x1] w R :=
  call_of_fnW plain mixed Try.func13 git_Table_Get_ann (Eq.mp (by kernel_rfl : git_Table_Get x0 x1 R w = fnW Try.prog Try.f13 git_Table_Get_ann #[.pointer x0, .int .u64 x1] R w) h)

def tenonlaw19_awake  (R : Value → World → Prop) (w : World) : Prop :=
  call Try.prog 7 #[.int .i64 2] w fun v1 w1 =>
  ∃ (p2 : Option Addr) (n3 : Int),
  v1 = .tuple #[.pointer p2, .int .i64 n3] ∧
  call Try.prog 9 #[] w1 fun v4 w2 =>
  asA v4 fun g5 =>
  call Try.prog 8 #[.pointer p2, .int .i64 1, .agg g5] w2 fun v6 w3 =>
  ∃ (n7 : Int) (n8 : Int),
  v6 = .tuple #[.int .u64 n7, .int .i64 n8] ∧
  call Try.prog 13 #[.pointer p2, .int .u64 n7] w3 fun v9 w4 =>
  ∃ (g10 : Array Value) (n11 : Int),
  v9 = .tuple #[.agg g10, .int .i64 n11] ∧
  new #[.int .u32 0, .int .u32 0, .int .u64 0, .int .u64 0, .int .u8 0, .int .u8 0, .int .u8 0, .int .u8 0, .int .u8 0, .int .u8 0, .int .u8 0, .int .u8 0, .int .u8 0, .int .u8 0, .int .u8 0, .int .u8 0, .int .u8 0, .int .u8 0, .int .u8 0, .int .u8 0, .int .u8 0, .int .u8 0, .int .u8 0, .int .u8 0, .int .u8 0, .int .u8 0, .int .u8 0, .int .u8 0, .int .u8 0, .int .u8 0, .int .u8 0, .int .u8 0, .int .u8 0, .int .u8 0, .int .u8 0, .int .u8 0] 34 w4 fun k12 w5 =>
  stA Try.prog (⟨k12, 0, none⟩ : Addr) 36 g10 w5 fun w6 =>
  call Try.prog 11 #[.pointer p2, .int .i64 1] w6 fun v13 w7 =>
  asS v13 fun p14 l14 c14 =>
  call Try.prog 13 #[.pointer p2, .int .u64 n7] w7 fun v15 w8 =>
  ∃ (g16 : Array Value) (n17 : Int),
  v15 = .tuple #[.agg g16, .int .i64 n17] ∧
  new #[.int .u32 0, .int .u32 0, .int .u64 0, .int .u64 0, .int .u8 0, .int .u8 0, .int .u8 0, .int .u8 0, .int .u8 0, .int .u8 0, .int .u8 0, .int .u8 0, .int .u8 0, .int .u8 0, .int .u8 0, .int .u8 0, .int .u8 0, .int .u8 0, .int .u8 0, .int .u8 0, .int .u8 0, .int .u8 0, .int .u8 0, .int .u8 0, .int .u8 0, .int .u8 0, .int .u8 0, .int .u8 0, .int .u8 0, .int .u8 0, .int .u8 0, .int .u8 0, .int .u8 0, .int .u8 0, .int .u8 0, .int .u8 0] 34 w8 fun k18 w9 =>
  stA Try.prog (⟨k18, 0, none⟩ : Addr) 36 g16 w9 fun w10 =>
  br ((n3 : Int) == 0) (
  br ((n8 : Int) == 0) (
  br ((n11 : Int) == 0) (
  ldA (⟨k12, 0, none⟩ : Addr) 36 w10.drew fun g19 =>
  call Try.prog 9 #[] w10.drew fun v20 w11 =>
  asA v20 fun g21 =>
  keepS (cellsOf (⟨k12, 0, none⟩ : Addr) g19) w11 (
  still Try.prog (Op.equal 34 (.agg g19) (.agg g21)) fun b22 =>
  br b22 (
  br ((l14 : Int) == 1) (
  R (.bool ((n17 : Int) == 2)) w11) (
  R (.bool false) w11)) (
  R (.bool false) w11))) (
  R (.bool false) w10.drew)) (
  R (.bool false) w10.drew)) (
  R (.bool false) w10.drew)
@[irreducible] def tenonlaw19_awake_ann : Ann := .seq .none (.seq .none (.seq .none (.seq .none (.seq .none (.seq .none (.seq (.draw [[], [0], [0, 1], [0, 1, 2], [0, 1, 2, 3], [0, 1, 2, 3, 4], [0, 1, 2, 3, 4, 5], [0, 1, 2, 3, 4, 5, 6], [0, 1, 2, 3, 4, 5, 6, 7], [0, 1, 2, 3, 4, 5, 6, 7, 8], [0, 1, 2, 3, 4, 5, 6, 7, 8, 9], [0, 1, 2, 3, 4, 5, 6, 7, 8, 9, 10], [0, 1, 2, 3, 4, 5, 6, 7, 8, 9, 10], [0, 1, 2, 3, 4, 5, 6, 7, 8, 9, 10, 11, 12], [0, 1, 2, 3, 4, 5, 6, 7, 8, 9, 10, 11, 12, 13], [0, 1, 2, 3, 4, 5, 6, 7, 8, 9, 10, 11, 12, 13, 14], [0, 1, 2, 3, 4, 5, 6, 7, 8, 9, 10, 11, 12, 13, 14, 15], [0, 1, 2, 3, 4, 5, 6, 7, 8, 9, 10, 11, 12, 13, 14, 15, 16], [0, 1, 2, 3, 4, 5, 6, 7, 8, 9, 10, 11, 12, 13, 14, 15, 16, 17], [0, 1, 2, 3, 4, 5, 6, 7, 8, 9, 10, 11, 12, 13, 14, 15, 16, 17, 18], [0, 1, 2, 3, 4, 5, 6, 7, 8, 9, 10, 11, 12, 13, 14, 15, 16, 17, 18, 19], [0, 1, 2, 3, 4, 5, 6, 7, 8, 9, 10, 11, 12, 13, 14, 15, 16, 17, 18, 19, 20], [0, 1, 2, 3, 4, 5, 6, 7, 8, 9, 10, 11, 12, 13, 14, 15, 16, 17, 18, 19, 20, 21], [0, 1, 2, 3, 4, 5, 6, 7, 8, 9, 10, 11, 12, 13, 14, 15, 16, 17, 18, 19, 20, 21, 22], [0, 1, 2, 3, 4, 5, 6, 7, 8, 9, 10, 11, 12, 13, 14, 15, 16, 17, 18, 19, 20, 21, 22, 23]] (ol [0, 1, 2, 3, 4, 5, 6, 7, 8, 9, 10, 11, 12, 13, 14, 15, 16, 17, 18, 19, 20, 21, 22, 23, 24] .nil)) .none))))))
theorem tenonlaw19_awake_call  {R : Value → World → Prop} {w : World} (h : tenonlaw19_awake  R w) : call Try.prog 14 #[] w R :=
  call_of_fnW plain mixed Try.func14 tenonlaw19_awake_ann (Eq.mp (by kernel_rfl : tenonlaw19_awake  R w = fnW Try.prog Try.f14 tenonlaw19_awake_ann #[] R w) h)

def tenonref19_New (x0 : Int) (R : Value → World → Prop) (w : World) : Prop :=
  call Try.prog 29 #[.int .i64 x0, .int .u32 1] w fun v1 w1 =>
  asP v1 fun p2 =>
  br p2.isNone (
  R (.pointer none) w1) (
  new #[.pointer p2, .slice none 0 0] 55 w1 fun k3 w2 =>
  R (.pointer (some (⟨k3, 0, none⟩ : Addr))) w2)
@[irreducible] def tenonref19_New_ann : Ann := .none
theorem tenonref19_New_call {x0 : Int} {R : Value → World → Prop} {w : World} (h : tenonref19_New x0 R w) : call Try.prog 15 #[.int .i64 x0] w R :=
  call_of_fnW plain mixed Try.func15 tenonref19_New_ann (Eq.mp (by kernel_rfl : tenonref19_New x0 R w = fnW Try.prog Try.f15 tenonref19_New_ann #[.int .i64 x0] R w) h)

def tenonlaw19_Pair_do (x0 : Option Addr) (x1 : Array Value) (R : Value → World → Prop) (w : World) : Prop :=
  new x1 37 w fun k1 w1 =>
  ldI .u64 ((⟨k1, 0, none⟩ : Addr).add 39) w1 fun n2 =>
  ∃ J3 : Int → World → Prop, (
  ∃ J4 : Bool → World → Prop, (
  br ((n2 : Int) == 0) (
  nn x0 fun a5 =>
  ldS (a5.add 2) w1 fun p6 l6 c6 =>
  J4 (decide ((l6 : Int) > 0)) w1) (
  J4 false w1)) ∧
  ∀ (u7 : Nat → Value) (b8 : Bool) (w2 : World), J4 b8 w2 →
  br b8 (
  nn x0 fun a9 =>
  ldS (a9.add 2) w2.drew fun p10 l10 c10 =>
  ldI .i64 ((⟨k1, 0, none⟩ : Addr).add 1) w2.drew fun n11 =>
  nn x0 fun a12 =>
  ldS (a12.add 2) w2.drew fun p13 l13 c13 =>
  call Try.prog 10 #[.int .i64 n11, .int .i64 ((l13 : Int))] w2.drew fun v14 w3 =>
  asI .i64 v14 fun n15 =>
  w3.cell? (a9.add 2) = some (.slice p10 l10 c10) ∧
  idx p10 l10 n15 1 fun a16 =>
  ldI .u64 a16 w3 fun n17 =>
  J3 n17 w3) (
  J3 n2 w2)) ∧
  ∀ (u18 : Nat → Value) (n19 : Int) (w4 : World), J3 n19 w4 →
  ldI .i64 ((⟨k1, 0, none⟩ : Addr).add 0) w4 fun n20 =>
  call Try.prog 10 #[.int .i64 n20, .int .i64 5] w4 fun v21 w5 =>
  asI .i64 v21 fun n22 =>
  ∃ J23 : Bool → World → Prop, (
  br ((n22 : Int) == 0) (
  J23 ((n22 : Int) == 0) w5) (
  J23 ((n22 : Int) == 1) w5)) ∧
  ∀ (u24 : Nat → Value) (b25 : Bool) (w6 : World), J23 b25 w6 →
  br b25 (
  nn x0 fun a26 =>
  ldP (a26.add 0) w6.drew fun p27 =>
  ldI .i64 ((⟨k1, 0, none⟩ : Addr).add 2) w6.drew fun n28 =>
  ldA ((⟨k1, 0, none⟩ : Addr).add 3) 36 w6.drew fun g29 =>
  call Try.prog 8 #[.pointer p27, .int .i64 n28, .agg g29] w6.drew fun v30 w7 =>
  ∃ (n31 : Int) (n32 : Int),
  v30 = .tuple #[.int .u64 n31, .int .i64 n32] ∧
  nn x0 fun a33 =>
  ldP (a33.add 1) w7.drew fun p34 =>
  ldI .i64 ((⟨k1, 0, none⟩ : Addr).add 2) w7.drew fun n35 =>
  ldA ((⟨k1, 0, none⟩ : Addr).add 3) 36 w7.drew fun g36 =>
  call Try.prog 30 #[.pointer p34, .int .i64 n35, .agg g36] w7.drew fun v37 w8 =>
  ∃ (n38 : Int) (n39 : Int),
  v37 = .tuple #[.int .u64 n38, .int .i64 n39] ∧
  br ((n39 : Int) == 0) (
  nn x0 fun a40 =>
  ldS (a40.add 2) w8 fun p41 l41 c41 =>
  new #[.int .u64 n38] 27 w8 fun k42 w9 =>
  runsS Try.prog (Builtin.append_ #[48, 48] 48 #[.slice p41 l41 c41, .slice (some (⟨k42, 0, none⟩ : Addr)) 1 1]) w9 fun p43 l43 c43 w10 =>
  nn x0 fun a44 =>
  st (a44.add 2) (.slice p43 l43 c43) w10 fun w11 =>
  br ((n31 : Int) == n38) (
  R (.bool ((n32 : Int) == n39)) w11) (
  R (.bool false) w11)) (
  br ((n31 : Int) == n38) (
  R (.bool ((n32 : Int) == n39)) w8) (
  R (.bool false) w8))) (
  br ((n22 : Int) == 2) (
  nn x0 fun a45 =>
  ldP (a45.add 0) w6 fun p46 =>
  call Try.prog 13 #[.pointer p46, .int .u64 n19] w6 fun v47 w12 =>
  ∃ (g48 : Array Value) (n49 : Int),
  v47 = .tuple #[.agg g48, .int .i64 n49] ∧
  new #[.int .u32 0, .int .u32 0, .int .u64 0, .int .u64 0, .int .u8 0, .int .u8 0, .int .u8 0, .int .u8 0, .int .u8 0, .int .u8 0, .int .u8 0, .int .u8 0, .int .u8 0, .int .u8 0, .int .u8 0, .int .u8 0, .int .u8 0, .int .u8 0, .int .u8 0, .int .u8 0, .int .u8 0, .int .u8 0, .int .u8 0, .int .u8 0, .int .u8 0, .int .u8 0, .int .u8 0, .int .u8 0, .int .u8 0, .int .u8 0, .int .u8 0, .int .u8 0, .int .u8 0, .int .u8 0, .int .u8 0, .int .u8 0] 34 w12 fun k50 w13 =>
  stA Try.prog (⟨k50, 0, none⟩ : Addr) 36 g48 w13 fun w14 =>
  nn x0 fun a51 =>
  ldP (a51.add 1) w14 fun p52 =>
  call Try.prog 20 #[.pointer p52, .int .u64 n19] w14 fun v53 w15 =>
  asI .i64 v53 fun n54 =>
  br (decide ((n54 : Int) < 0)) (
  ldA (⟨k50, 0, none⟩ : Addr) 36 w15 fun g55 =>
  still Try.prog (Op.equal 34 (.agg g55) (.agg #[.int .u32 0, .int .u32 0, .int .u64 0, .int .u64 0, .int .u8 0, .int .u8 0, .int .u8 0, .int .u8 0, .int .u8 0, .int .u8 0, .int .u8 0, .int .u8 0, .int .u8 0, .int .u8 0, .int .u8 0, .int .u8 0, .int .u8 0, .int .u8 0, .int .u8 0, .int .u8 0, .int .u8 0, .int .u8 0, .int .u8 0, .int .u8 0, .int .u8 0, .int .u8 0, .int .u8 0, .int .u8 0, .int .u8 0, .int .u8 0, .int .u8 0, .int .u8 0, .int .u8 0, .int .u8 0, .int .u8 0, .int .u8 0])) fun b56 =>
  br b56 (
  R (.bool ((n49 : Int) == 2)) w15) (
  R (.bool false) w15)) (
  ldA (⟨k50, 0, none⟩ : Addr) 36 w15.drew fun g57 =>
  nn x0 fun a58 =>
  ldP (a58.add 1) w15.drew fun p59 =>
  nn p59 fun a60 =>
  ldS (a60.add 1) w15.drew fun p61 l61 c61 =>
  idx p61 l61 n54 38 fun a62 =>
  ldA (a62.add 2) 36 w15.drew fun g63 =>
  still Try.prog (Op.equal 34 (.agg g57) (.agg g63)) fun b64 =>
  br b64 (
  R (.bool ((n49 : Int) == 0)) w15.drew) (
  R (.bool false) w15.drew))) (
  br ((n22 : Int) == 3) (
  nn x0 fun a65 =>
  ldP (a65.add 0) w6 fun p66 =>
  call Try.prog 12 #[.pointer p66, .int .u64 n19] w6 fun v67 w16 =>
  ∃ (g68 : Array Value) (n69 : Int),
  v67 = .tuple #[.agg g68, .int .i64 n69] ∧
  new #[.int .u32 0, .int .u32 0, .int .u64 0, .int .u64 0, .int .u8 0, .int .u8 0, .int .u8 0, .int .u8 0, .int .u8 0, .int .u8 0, .int .u8 0, .int .u8 0, .int .u8 0, .int .u8 0, .int .u8 0, .int .u8 0, .int .u8 0, .int .u8 0, .int .u8 0, .int .u8 0, .int .u8 0, .int .u8 0, .int .u8 0, .int .u8 0, .int .u8 0, .int .u8 0, .int .u8 0, .int .u8 0, .int .u8 0, .int .u8 0, .int .u8 0, .int .u8 0, .int .u8 0, .int .u8 0, .int .u8 0, .int .u8 0] 34 w16 fun k70 w17 =>
  stA Try.prog (⟨k70, 0, none⟩ : Addr) 36 g68 w17 fun w18 =>
  nn x0 fun a71 =>
  ldP (a71.add 1) w18 fun p72 =>
  call Try.prog 31 #[.pointer p72, .int .u64 n19] w18 fun v73 w19 =>
  ∃ (g74 : Array Value) (n75 : Int),
  v73 = .tuple #[.agg g74, .int .i64 n75] ∧
  new #[.int .u32 0, .int .u32 0, .int .u64 0, .int .u64 0, .int .u8 0, .int .u8 0, .int .u8 0, .int .u8 0, .int .u8 0, .int .u8 0, .int .u8 0, .int .u8 0, .int .u8 0, .int .u8 0, .int .u8 0, .int .u8 0, .int .u8 0, .int .u8 0, .int .u8 0, .int .u8 0, .int .u8 0, .int .u8 0, .int .u8 0, .int .u8 0, .int .u8 0, .int .u8 0, .int .u8 0, .int .u8 0, .int .u8 0, .int .u8 0, .int .u8 0, .int .u8 0, .int .u8 0, .int .u8 0, .int .u8 0, .int .u8 0] 34 w19 fun k76 w20 =>
  stA Try.prog (⟨k76, 0, none⟩ : Addr) 36 g74 w20 fun w21 =>
  ldA (⟨k70, 0, none⟩ : Addr) 36 w21 fun g77 =>
  ldA (⟨k76, 0, none⟩ : Addr) 36 w21 fun g78 =>
  still Try.prog (Op.equal 34 (.agg g77) (.agg g78)) fun b79 =>
  br b79 (
  R (.bool ((n69 : Int) == n75)) w21) (
  R (.bool false) w21)) (
  nn x0 fun a80 =>
  ldP (a80.add 0) w6.drew fun p81 =>
  ldI .i64 ((⟨k1, 0, none⟩ : Addr).add 2) w6.drew fun n82 =>
  nn x0 fun a83 =>
  ldP (a83.add 1) w6.drew fun p84 =>
  ldI .i64 ((⟨k1, 0, none⟩ : Addr).add 2) w6.drew fun n85 =>
  call Try.prog 11 #[.pointer p81, .int .i64 n82] w6.drew fun v86 w22 =>
  asS v86 fun p87 l87 c87 =>
  w22.cell? ((⟨k1, 0, none⟩ : Addr).add 2) = some (.int .i64 n85) ∧
  w22.cell? (a83.add 1) = some (.pointer p84) ∧
  call Try.prog 33 #[.pointer p84, .int .i64 n85] w22 fun v88 w23 =>
  asS v88 fun p89 l89 c89 =>
  call Try.prog 32 #[.slice p87 l87 c87, .slice p89 l89 c89] w23 fun v90 w24 =>
  asB v90 fun b91 =>
  R (.bool b91) w24)))
@[irreducible] def tenonlaw19_Pair_do_ann : Ann := .seq .none (.seq .none (.meet [(5, .int .u64)] (.meet [(28, .bool)] .none (.seq (.draw [[], [0], [0, 1], [0, 1, 2], [], [4], [], [6], [6, 7], [6, 7, 8], [6, 7, 8, 9], [4, 5, 6, 7, 8, 9, 10], [0, 1, 2, 3, 4, 5, 6, 7, 8, 9, 10, 11], [0, 1, 2, 3, 4, 5, 6, 7, 8, 9, 10, 11, 12], [0, 1, 2, 3, 4, 5, 6, 7, 8, 9, 10, 11, 12, 13]] (ol [0, 1, 2, 3, 4, 5, 6, 7, 8, 9, 10, 11, 12, 13, 14] .nil)) .none)) (.seq (.seq .none (.one (.meet [(46, .bool)] .none (.seq (.seq (.draw [[], [0], [0, 1], [0, 1, 2], [], [4], [], [6], [0, 1, 2, 3, 4, 5, 6, 7], [0, 1, 2, 3, 4, 5, 6, 7, 8], [0, 1, 2, 3, 4, 5, 6, 7, 8, 9], [0, 1, 2, 3, 4, 5, 6, 7, 8, 9], [0, 1, 2, 3, 4, 5, 6, 7, 8, 9, 10], [0, 1, 2, 3, 4, 5, 6, 7, 8, 9, 10, 11, 12]] (ol [0, 1, 2, 3, 4, 5, 6, 7, 8, 9, 10, 11, 12, 13] .nil)) (.seq (.draw [[], [0], [0, 1], [0, 1, 2], [], [4], [], [6], [0, 1, 2, 3, 4, 5, 6, 7], [0, 1, 2, 3, 4, 5, 6, 7, 8], [0, 1, 2, 3, 4, 5, 6, 7, 8, 9], [0, 1, 2, 3, 4, 5, 6, 7, 8, 9], [0, 1, 2, 3, 4, 5, 6, 7, 8, 9, 10], [0, 1, 2, 3, 4, 5, 6, 7, 8, 9, 10, 11, 12]] (ol [0, 1, 2, 3, 4, 5, 6, 7, 8, 9, 10, 11, 12, 13] .nil)) .none)) (.seq .none (.seq (.seq .none (.seq .none (.seq .none (.seq (.draw [[], [], [1], [1, 2], [1, 2, 3], [1, 2, 3, 4], [1, 2, 3, 4, 5], [1, 2, 3, 4, 5, 6], [], [1, 2, 3, 4, 5, 6, 7, 8], [1, 2, 3, 4, 5, 6, 7, 8, 9], [1, 2, 3, 4, 5, 6, 7, 8, 9, 10], [0, 1, 2, 3, 4, 5, 6, 7, 8, 9, 10, 11], [0, 1, 2, 3, 4, 5, 6, 7, 8, 9, 10, 11, 12], [0, 1, 2, 3, 4, 5, 6, 7, 8, 9, 10, 11, 12, 13], [0, 1, 2, 3, 4, 5, 6, 7, 8, 9, 10, 11, 12, 13, 14], [0, 1, 2, 3, 4, 5, 6, 7, 8, 9, 10, 11, 12, 13, 14, 15], [0, 1, 2, 3, 4, 5, 6, 7, 8, 9, 10, 11, 12, 13, 14, 15, 16]] (ol [0, 1, 2, 3, 4, 5, 6, 7, 8, 9, 10, 11, 12, 13, 14, 15, 16, 17] .nil)) .none)))) .none)))))) (.seq (.draw [[], [0], [0, 1], [0, 1, 2], [], [4], [0, 1, 2, 3, 4, 5], [], [7], [7, 8], [7, 8, 9], [], [11], [0, 1, 2, 3, 4, 5, 6, 7, 8, 9, 10, 11, 12], [0, 1, 2, 3, 4, 5, 6, 7, 8, 9, 10, 11, 12, 13], [0, 1, 2, 3, 4, 5, 6, 7, 8, 9, 10, 11, 12, 13, 14]] (ol [0, 1, 2, 3, 4, 5, 7, 8, 9, 10, 11, 12, 6, 13, 14, 15] .nil)) .none))))
theorem tenonlaw19_Pair_do_call {x0 : Option Addr} {x1 : Array Value} {R : Value → World → Prop} {w : World} (h : tenonlaw19_Pair_do x0 x1 R w) : call Try.prog 16 #[.pointer x0, .agg x1] w R :=
  call_of_fnW plain mixed Try.func16 tenonlaw19_Pair_do_ann (Eq.mp (by kernel_rfl : tenonlaw19_Pair_do x0 x1 R w = fnW Try.prog Try.f16 tenonlaw19_Pair_do_ann #[.pointer x0, .agg x1] R w) h)

def tenonref02_Arena_All (x0 : Option Addr) (R : Value → World → Prop) (w : World) : Prop :=
  ∃ I1 : Option Addr → Nat → Nat → Int → World → Nat → Prop, (∃ m2, I1 none 0 0 0 w m2) ∧
  ∀ (u3 : Nat → Value) (p4 : Option Addr) (l4 c4 : Nat) (n5 : Int) (w1 : World) (m6 : Nat), I1 p4 l4 c4 n5 w1 m6 →
  nn x0 fun a7 =>
  ldS (a7.add 2) w1 fun p8 l8 c8 =>
  br (decide ((n5 : Int) < (l8 : Int))) (
  nn x0 fun a9 =>
  ldS (a9.add 2) w1 fun p10 l10 c10 =>
  idx p10 l10 n5 3 fun a11 =>
  ldI .i64 (a11.add 2) w1 fun n12 =>
  br ((n12 : Int) == 1) (
  nn x0 fun a13 =>
  ldS (a13.add 2) w1 fun p14 l14 c14 =>
  idx p14 l14 n5 3 fun a15 =>
  ldI .u32 (a15.add 1) w1 fun n16 =>
  call Try.prog 34 #[.int .i64 n5, .int .u32 n16] w1 fun v17 w2 =>
  asI .u64 v17 fun n18 =>
  new #[.int .u64 n18] 27 w2 fun k19 w3 =>
  runsS Try.prog (Builtin.append_ #[48, 48] 48 #[.slice p4 l4 c4, .slice (some (⟨k19, 0, none⟩ : Addr)) 1 1]) w3 fun p20 l20 c20 w4 =>
  arith .i64 (n5 + 1) fun n21 =>
  ∃ m22, m22 < m6 ∧ I1 p20 l20 c20 n21 w4 m22) (
  arith .i64 (n5 + 1) fun n23 =>
  ∃ m24, m24 < m6 ∧ I1 p4 l4 c4 n23 w1 m24)) (
  R (.slice p4 l4 c4) w1)
@[irreducible] def tenonref02_Arena_All_ann : Ann := .seq .none (.seq .none (.seq (.seq .none (.one (.loop [(3, .slice), (4, .int .i64)] .none))) .none))
theorem tenonref02_Arena_All_call {x0 : Option Addr} {R : Value → World → Prop} {w : World} (h : tenonref02_Arena_All x0 R w) : call Try.prog 17 #[.pointer x0] w R :=
  call_of_fnW plain mixed Try.func17 tenonref02_Arena_All_ann (Eq.mp (by kernel_rfl : tenonref02_Arena_All x0 R w = fnW Try.prog Try.f17 tenonref02_Arena_All_ann #[.pointer x0] R w) h)

def tenonlaw19_told (x0 : Option Addr) (x1 : Int) (R : Value → World → Prop) (w : World) : Prop :=
  new #[.int .i64 x1] 3 w fun k1 w1 =>
  new #[.slice none 0 0] 48 w1 fun k2 w2 =>
  new #[.slice none 0 0] 39 w2 fun k3 w3 =>
  call Try.prog 35 #[.pointer x0] w3 fun v4 w4 =>
  asF v4 fun f5 q5 t5 =>
  rangeW Try.prog (.func f5 q5 t5) 2 (fun xs6 N7 J8 T9 w5 => ∃ (n10 : Int) (g11 : Array Value), xs6 = #[.int .u64 n10, .agg g11] ∧
  new #[.int .u32 0, .int .u32 0, .int .u64 0, .int .u64 0, .int .u8 0, .int .u8 0, .int .u8 0, .int .u8 0, .int .u8 0, .int .u8 0, .int .u8 0, .int .u8 0, .int .u8 0, .int .u8 0, .int .u8 0, .int .u8 0, .int .u8 0, .int .u8 0, .int .u8 0, .int .u8 0, .int .u8 0, .int .u8 0, .int .u8 0, .int .u8 0, .int .u8 0, .int .u8 0, .int .u8 0, .int .u8 0, .int .u8 0, .int .u8 0, .int .u8 0, .int .u8 0, .int .u8 0, .int .u8 0, .int .u8 0, .int .u8 0] 34 w5 fun k12 w6 =>
  stA Try.prog (⟨k12, 0, none⟩ : Addr) 36 g11 w6 fun w7 =>
  T9 w7 fun w8 =>
  ldS (⟨k2, 0, none⟩ : Addr) w8 fun p13 l13 c13 =>
  ldI .i64 (⟨k1, 0, none⟩ : Addr) w8 fun n14 =>
  br (decide ((l13 : Int) ≥ n14)) (
  J8 (.exit 0) w8) (
  ldS (⟨k2, 0, none⟩ : Addr) w8 fun p15 l15 c15 =>
  new #[.int .u64 n10] 27 w8 fun k16 w9 =>
  runsS Try.prog (Builtin.append_ #[48, 48] 48 #[.slice p15 l15 c15, .slice (some (⟨k16, 0, none⟩ : Addr)) 1 1]) w9 fun p17 l17 c17 w10 =>
  st (⟨k2, 0, none⟩ : Addr) (.slice p17 l17 c17) w10 fun w11 =>
  ldS (⟨k3, 0, none⟩ : Addr) w11 fun p18 l18 c18 =>
  ldA (⟨k12, 0, none⟩ : Addr) 36 w11 fun g19 =>
  (g19 : Array Value).size = 36 ∧
  new g19 34 w11 fun k20 w12 =>
  runsS Try.prog (Builtin.append_ #[39, 39] 39 #[.slice p18 l18 c18, .slice (some (⟨k20, 0, none⟩ : Addr)) 1 1]) w12 fun p21 l21 c21 w13 =>
  st (⟨k3, 0, none⟩ : Addr) (.slice p21 l21 c21) w13 fun w14 =>
  N7 w14)) (fun D22 w15 =>
  ldS (⟨k2, 0, none⟩ : Addr) w15.drew fun p23 l23 c23 =>
  ldS (⟨k3, 0, none⟩ : Addr) w15.drew fun p24 l24 c24 =>
  shutD D22 w15.drew fun w16 =>
  R (.tuple #[.slice p23 l23 c23, .slice p24 l24 c24]) w16) (fun D25 c26 w17 => jmp c26 (
  False) [(0, ldS (⟨k2, 0, none⟩ : Addr) w17.drew fun p27 l27 c27 =>
  ldS (⟨k3, 0, none⟩ : Addr) w17.drew fun p28 l28 c28 =>
  shutD D25 w17.drew fun w18 =>
  R (.tuple #[.slice p27 l27 c27, .slice p28 l28 c28]) w18)]) w4
@[irreducible] def tenonlaw19_told_ann : Ann := .seq .none (.seq .none (.seq .none (.seq (.seq .none (.seq .none (.seq (.seq .none (.one (.range [.int .u64, .agg] .none .none))) .none))) (.seq (.draw [[], [], [0], [0, 1, 2]] (ol [0, 1, 2, 3] .nil)) .none))))
theorem tenonlaw19_told_call {x0 : Option Addr} {x1 : Int} {R : Value → World → Prop} {w : World} (h : tenonlaw19_told x0 x1 R w) : call Try.prog 18 #[.pointer x0, .int .i64 x1] w R :=
  call_of_fnW plain mixed Try.func18 tenonlaw19_told_ann (Eq.mp (by kernel_rfl : tenonlaw19_told x0 x1 R w = fnW Try.prog Try.f18 tenonlaw19_told_ann #[.pointer x0, .int .i64 x1] R w) h)

def tenonref01_SameLongs (x0 : Option Addr) (y0 z0 : Nat) (x1 : Option Addr) (y1 z1 : Nat) (R : Value → World → Prop) (w : World) : Prop :=
  br ((y0 : Int) != (y1 : Int)) (
  R (.bool false) w) (
  ∃ I1 : Int → World → Nat → Prop, (∃ m2, I1 0 w m2) ∧
  ∀ (u3 : Nat → Value) (n4 : Int) (w1 : World) (m5 : Nat), I1 n4 w1 m5 →
  br (decide ((n4 : Int) < (y0 : Int))) (
  idx x0 y0 n4 1 fun a6 =>
  ldI .u64 a6 w1.drew fun n7 =>
  idx x1 y1 n4 1 fun a8 =>
  ldI .u64 a8 w1.drew fun n9 =>
  br ((n7 : Int) != n9) (
  R (.bool false) w1.drew) (
  arith .i64 (n4 + 1) fun n10 =>
  ∃ m11, m11 < m5 ∧ I1 n10 w1.drew m11)) (
  R (.bool true) w1))
@[irreducible] def tenonref01_SameLongs_ann : Ann := .seq .none (.seq .none (.seq (.seq .none (.one (.loop [(5, .int .i64)] (.seq .none (.seq (.one (.seq (.draw [[], [], [0, 1], [0, 1, 2], [], [], [4, 5], [4, 5, 6], [0, 1, 2, 3, 4, 5, 6, 7]] (ol [0, 1, 2, 3, 4, 5, 6, 7, 8] .nil)) .none)) .none))))) .none))
theorem tenonref01_SameLongs_call {x0 : Option Addr} {y0 z0 : Nat} {x1 : Option Addr} {y1 z1 : Nat} {R : Value → World → Prop} {w : World} (h : tenonref01_SameLongs x0 y0 z0 x1 y1 z1 R w) : call Try.prog 19 #[.slice x0 y0 z0, .slice x1 y1 z1] w R :=
  call_of_fnW plain mixed Try.func19 tenonref01_SameLongs_ann (Eq.mp (by kernel_rfl : tenonref01_SameLongs x0 y0 z0 x1 y1 z1 R w = fnW Try.prog Try.f19 tenonref01_SameLongs_ann #[.slice x0 y0 z0, .slice x1 y1 z1] R w) h)

def tenonref19_Table_At (x0 : Option Addr) (x1 : Int) (R : Value → World → Prop) (w : World) : Prop :=
  ∃ I1 : Int → World → Nat → Prop, (∃ m2, I1 0 w m2) ∧
  ∀ (u3 : Nat → Value) (n4 : Int) (w1 : World) (m5 : Nat), I1 n4 w1 m5 →
  nn x0 fun a6 =>
  ldS (a6.add 1) w1 fun p7 l7 c7 =>
  br (decide ((n4 : Int) < (l7 : Int))) (
  nn x0 fun a8 =>
  ldS (a8.add 1) w1 fun p9 l9 c9 =>
  idx p9 l9 n4 38 fun a10 =>
  ldI .u64 (a10.add 0) w1 fun n11 =>
  br ((n11 : Int) == x1) (
  R (.int .i64 n4) w1) (
  arith .i64 (n4 + 1) fun n12 =>
  ∃ m13, m13 < m5 ∧ I1 n12 w1 m13)) (
  R (.int .i64 (-1)) w1)
@[irreducible] def tenonref19_Table_At_ann : Ann := .seq .none (.seq (.seq .none (.one (.loop [(5, .int .i64)] .none))) .none)
theorem tenonref19_Table_At_call {x0 : Option Addr} {x1 : Int} {R : Value → World → Prop} {w : World} (h : tenonref19_Table_At x0 x1 R w) : call Try.prog 20 #[.pointer x0, .int .u64 x1] w R :=
  call_of_fnW plain mixed Try.func20 tenonref19_Table_At_ann (Eq.mp (by kernel_rfl : tenonref19_Table_At x0 x1 R w = fnW Try.prog Try.f20 tenonref19_Table_At_ann #[.pointer x0, .int .u64 x1] R w) h)

def git_Table_Find (x0 : Option Addr) (x1 : Array Value) (R : Value → World → Prop) (w : World) : Prop :=
  new x1 34 w fun k1 w1 =>
  new #[.int .u64 0] 27 w1 fun k2 w2 =>
  new #[.bool false] 4 w2 fun k3 w3 =>
  st (⟨k2, 0, none⟩ : Addr) (.int .u64 0) w3 fun w4 =>
  st (⟨k3, 0, none⟩ : Addr) (.bool false) w4 fun w5 =>
  call Try.prog 35 #[.pointer x0] w5 fun v4 w6 =>
  asF v4 fun f5 q5 t5 =>
  rangeW Try.prog (.func f5 q5 t5) 2 (fun xs6 N7 J8 T9 w7 => ∃ (n10 : Int) (g11 : Array Value), xs6 = #[.int .u64 n10, .agg g11] ∧
  new #[.int .u32 0, .int .u32 0, .int .u64 0, .int .u64 0, .int .u8 0, .int .u8 0, .int .u8 0, .int .u8 0, .int .u8 0, .int .u8 0, .int .u8 0, .int .u8 0, .int .u8 0, .int .u8 0, .int .u8 0, .int .u8 0, .int .u8 0, .int .u8 0, .int .u8 0, .int .u8 0, .int .u8 0, .int .u8 0, .int .u8 0, .int .u8 0, .int .u8 0, .int .u8 0, .int .u8 0, .int .u8 0, .int .u8 0, .int .u8 0, .int .u8 0, .int .u8 0, .int .u8 0, .int .u8 0, .int .u8 0, .int .u8 0] 34 w7 fun k12 w8 =>
  stA Try.prog (⟨k12, 0, none⟩ : Addr) 36 g11 w8 fun w9 =>
  T9 w9 fun w10 =>
  ldA (⟨k12, 0, none⟩ : Addr) 36 w10 fun g13 =>
  ldA (⟨k1, 0, none⟩ : Addr) 36 w10 fun g14 =>
  still Try.prog (Op.equal 34 (.agg g13) (.agg g14)) fun b15 =>
  br b15 (
  st (⟨k2, 0, none⟩ : Addr) (.int .u64 n10) w10 fun w11 =>
  st (⟨k3, 0, none⟩ : Addr) (.bool true) w11 fun w12 =>
  J8 (.exit 0) w12) (
  N7 w10)) (fun D16 w13 =>
  ldI .u64 (⟨k2, 0, none⟩ : Addr) w13.drew fun n17 =>
  ldB (⟨k3, 0, none⟩ : Addr) w13.drew fun b18 =>
  shutD D16 w13.drew fun w14 =>
  R (.tuple #[.int .u64 n17, .bool b18]) w14) (fun D19 c20 w15 => jmp c20 (
  False) [(0, ldI .u64 (⟨k2, 0, none⟩ : Addr) w15.drew fun n21 =>
  ldB (⟨k3, 0, none⟩ : Addr) w15.drew fun b22 =>
  shutD D19 w15.drew fun w16 =>
  R (.tuple #[.int .u64 n21, .bool b22]) w16)]) w6
@[irreducible] def git_Table_Find_ann : Ann := .seq .none (.one (.seq .none (.seq .none (.seq (.seq .none (.one (.range [.int .u64, .agg] .none .none))) (.seq (.draw [[], [], [0], [0, 1, 2]] (ol [0, 1, 2, 3] .nil)) .none)))))
theorem git_Table_Find_call {x0 : Option Addr} {x1 : Array Value} {R : Value → World → Prop} {w : World} (h : git_Table_Find x0 x1 R w) : call Try.prog 21 #[.pointer x0, .agg x1] w R :=
  call_of_fnW plain mixed Try.func21 git_Table_Find_ann (Eq.mp (by kernel_rfl : git_Table_Find x0 x1 R w = fnW Try.prog Try.f21 git_Table_Find_ann #[.pointer x0, .agg x1] R w) h)

def tenonref19_Table_Find (x0 : Option Addr) (x1 : Array Value) (R : Value → World → Prop) (w : World) : Prop :=
  new x1 34 w fun k1 w1 =>
  nn x0 fun a2 =>
  ldP (a2.add 0) w1 fun p3 =>
  call Try.prog 17 #[.pointer p3] w1 fun v4 w2 =>
  asS v4 fun p5 l5 c5 =>
  ∃ I6 : Int → World → Nat → Prop, (∃ m7, I6 0 w2 m7) ∧
  ∀ (u8 : Nat → Value) (n9 : Int) (w3 : World) (m10 : Nat), I6 n9 w3 m10 →
  br (decide ((n9 : Int) < (l5 : Int))) (
  nn x0 fun a11 =>
  ldS (a11.add 1) w3.drew fun p12 l12 c12 =>
  idx p5 l5 n9 1 fun a13 =>
  ldI .u64 a13 w3.drew fun n14 =>
  ldA (⟨k1, 0, none⟩ : Addr) 36 w3.drew fun g15 =>
  call Try.prog 20 #[.pointer x0, .int .u64 n14] w3.drew fun v16 w4 =>
  asI .i64 v16 fun n17 =>
  keepS (cellsOf (⟨k1, 0, none⟩ : Addr) g15) w4 (
  w4.cell? (a11.add 1) = some (.slice p12 l12 c12) ∧
  idx p12 l12 n17 38 fun a18 =>
  ldA (a18.add 2) 36 w4 fun g19 =>
  still Try.prog (Op.equal 34 (.agg g19) (.agg g15)) fun b20 =>
  br b20 (
  idx p5 l5 n9 1 fun a21 =>
  ldI .u64 a21 w4 fun n22 =>
  R (.int .u64 n22) w4) (
  arith .i64 (n9 + 1) fun n23 =>
  ∃ m24, m24 < m10 ∧ I6 n23 w4 m24))) (
  R (.int .u64 0) w3)
@[irreducible] def tenonref19_Table_Find_ann : Ann := .seq .none (.seq .none (.seq (.seq .none (.one (.loop [(6, .int .i64)] (.seq .none (.seq (.one (.seq (.draw [[], [0], [0, 1], [0, 1, 2], [], [], [], [5, 6], [5, 6, 7], [4, 5, 6, 7, 8], [0, 1, 2, 3, 4, 5, 6, 7, 8, 9], [0, 1, 2, 3, 4, 5, 6, 7, 8, 9, 10], [0, 1, 2, 3, 4, 5, 6, 7, 8, 9, 10, 11], [], [0, 1, 2, 3, 4, 5, 6, 7, 8, 9, 10, 11, 12, 13]] (ol [0, 1, 2, 3, 4, 5, 6, 7, 8, 13, 9, 10, 11, 12, 14] .nil)) .none)) .none))))) .none))
theorem tenonref19_Table_Find_call {x0 : Option Addr} {x1 : Array Value} {R : Value → World → Prop} {w : World} (h : tenonref19_Table_Find x0 x1 R w) : call Try.prog 22 #[.pointer x0, .agg x1] w R :=
  call_of_fnW plain mixed Try.func22 tenonref19_Table_Find_ann (Eq.mp (by kernel_rfl : tenonref19_Table_Find x0 x1 R w = fnW Try.prog Try.f22 tenonref19_Table_Find_ann #[.pointer x0, .agg x1] R w) h)

def arena_New (x0 : Int) (x1 : Int) (R : Value → World → Prop) (w : World) : Prop :=
  br (decide ((x0 : Int) < 1)) (
  R (.tuple #[.pointer none, .int .i64 1]) w) (
  br (decide ((x0 : Int) > 65536)) (
  R (.tuple #[.pointer none, .int .i64 1]) w) (
  br ((x1 : Int) == 0) (
  R (.tuple #[.pointer none, .int .i64 1]) w) (
  new #[.int .i64 x0, .int .u32 x1, .slice none 0 0, .slice none 0 0, .int .i64 0] 100 w fun k1 w1 =>
  R (.tuple #[.pointer (some (⟨k1, 0, none⟩ : Addr)), .int .i64 0]) w1)))
@[irreducible] def arena_New_ann : Ann := .none
theorem arena_New_call {x0 : Int} {x1 : Int} {R : Value → World → Prop} {w : World} (h : arena_New x0 x1 R w) : call Try.prog 23 #[.int .i64 x0, .int .u32 x1] w R :=
  call_of_fnW plain mixed Try.func23 arena_New_ann (Eq.mp (by kernel_rfl : arena_New x0 x1 R w = fnW Try.prog Try.f23 arena_New_ann #[.int .i64 x0, .int .u32 x1] R w) h)

def objref_Check (x0 : Array Value) (R : Value → World → Prop) (w : World) : Prop :=
  new x0 34 w fun k1 w1 =>
  ldI .u32 ((⟨k1, 0, none⟩ : Addr).add 0) w1 fun n2 =>
  br (decide ((n2 : Int) > 2)) (
  R (.int .i64 5) w1) (
  ldI .u32 ((⟨k1, 0, none⟩ : Addr).add 0) w1 fun n3 =>
  ldI .u32 ((⟨k1, 0, none⟩ : Addr).add 1) w1 fun n4 =>
  br (!(((n3 : Int) == 0) == (decide ((n4 : Int) > 0)))) (
  R (.int .i64 5) w1) (
  R (.int .i64 0) w1))
@[irreducible] def objref_Check_ann : Ann := .none
theorem objref_Check_call {x0 : Array Value} {R : Value → World → Prop} {w : World} (h : objref_Check x0 R w) : call Try.prog 24 #[.agg x0] w R :=
  call_of_fnW plain mixed Try.func24 objref_Check_ann (Eq.mp (by kernel_rfl : objref_Check x0 R w = fnW Try.prog Try.f24 objref_Check_ann #[.agg x0] R w) h)

def arena_Arena_Put (x0 : Option Addr) (x1 : Array Value) (R : Value → World → Prop) (w : World) : Prop :=
  new x1 72 w fun k1 w1 =>
  br x0.isNone (
  R (.tuple #[.int .u64 0, .int .i64 3]) w1) (
  nn x0 fun a2 =>
  ldS (a2.add 2) w1 fun p3 l3 c3 =>
  ∃ J4 : Int → World → Prop, (
  nn x0 fun a5 =>
  ldS (a5.add 3) w1 fun p6 l6 c6 =>
  br (decide ((l6 : Int) > 0)) (
  nn x0 fun a7 =>
  ldS (a7.add 3) w1 fun p8 l8 c8 =>
  arith .i64 ((l6 : Int) - 1) fun n9 =>
  idx p8 l8 n9 1 fun a10 =>
  ldI .i64 a10 w1 fun n11 =>
  nn x0 fun a12 =>
  ldS (a12.add 3) w1 fun p13 l13 c13 =>
  arith .i64 ((l6 : Int) - 1) fun n14 =>
  slc p13 c13 1 0 n14 fun p15 l15 c15 =>
  nn x0 fun a16 =>
  st (a16.add 3) (.slice p15 l15 c15) w1 fun w2 =>
  J4 n11 w2) (
  nn x0 fun a17 =>
  ldI .i64 (a17.add 0) w1 fun n18 =>
  br ((l3 : Int) == n18) (
  R (.tuple #[.int .u64 0, .int .i64 3]) w1) (
  nn x0 fun a19 =>
  ldS (a19.add 2) w1.drew fun p20 l20 c20 =>
  nn x0 fun a21 =>
  ldI .u32 (a21.add 1) w1.drew fun n22 =>
  (#[.int .i64 0, .int .u32 0, .int .u32 0, .int .u64 0, .int .u64 0, .int .u8 0, .int .u8 0, .int .u8 0, .int .u8 0, .int .u8 0, .int .u8 0, .int .u8 0, .int .u8 0, .int .u8 0, .int .u8 0, .int .u8 0, .int .u8 0, .int .u8 0, .int .u8 0, .int .u8 0, .int .u8 0, .int .u8 0, .int .u8 0, .int .u8 0, .int .u8 0, .int .u8 0, .int .u8 0, .int .u8 0, .int .u8 0, .int .u8 0, .int .u8 0, .int .u8 0, .int .u8 0, .int .u8 0, .int .u8 0, .int .u8 0, .int .u8 0, .int .u32 n22, .bool false] : Array Value).size = 39 ∧
  new #[.int .i64 0, .int .u32 0, .int .u32 0, .int .u64 0, .int .u64 0, .int .u8 0, .int .u8 0, .int .u8 0, .int .u8 0, .int .u8 0, .int .u8 0, .int .u8 0, .int .u8 0, .int .u8 0, .int .u8 0, .int .u8 0, .int .u8 0, .int .u8 0, .int .u8 0, .int .u8 0, .int .u8 0, .int .u8 0, .int .u8 0, .int .u8 0, .int .u8 0, .int .u8 0, .int .u8 0, .int .u8 0, .int .u8 0, .int .u8 0, .int .u8 0, .int .u8 0, .int .u8 0, .int .u8 0, .int .u8 0, .int .u8 0, .int .u8 0, .int .u32 n22, .bool false] 102 w1.drew fun k23 w3 =>
  runsS Try.prog (Builtin.append_ #[98, 98] 98 #[.slice p20 l20 c20, .slice (some (⟨k23, 0, none⟩ : Addr)) 1 1]) w3 fun p24 l24 c24 w4 =>
  nn x0 fun a25 =>
  st (a25.add 2) (.slice p24 l24 c24) w4 fun w5 =>
  J4 ((l3 : Int)) w5))) ∧
  ∀ (u26 : Nat → Value) (n27 : Int) (w6 : World), J4 n27 w6 →
  nn x0 fun a28 =>
  ldS (a28.add 2) w6 fun p29 l29 c29 =>
  idx p29 l29 n27 39 fun a30 =>
  ldA (⟨k1, 0, none⟩ : Addr) 37 w6 fun g31 =>
  stA Try.prog (a30.add 0) 37 g31 w6 fun w7 =>
  st (a30.add 38) (.bool true) w7 fun w8 =>
  nn x0 fun a32 =>
  ldI .i64 (a32.add 4) w8 fun n33 =>
  arith .i64 (n33 + 1) fun n34 =>
  nn x0 fun a35 =>
  st (a35.add 4) (.int .i64 n34) w8 fun w9 =>
  ldI .u32 (a30.add 37) w9 fun n36 =>
  call Try.prog 36 #[.int .i64 n27, .int .u32 n36] w9 fun v37 w10 =>
  asI .u64 v37 fun n38 =>
  R (.tuple #[.int .u64 n38, .int .i64 0]) w10)
@[irreducible] def arena_Arena_Put_ann : Ann := .seq .none (.seq .none (.seq .none (.meet [(6, .int .i64)] (.seq .none (.seq .none (.seq .none (.seq .none (.seq .none (.draw [[], [], [1], [1, 2], [1, 2, 3], [], [5], [5, 6], [5, 6, 7], [5, 6, 7, 8], [5, 6, 7, 8, 9], [1, 2, 3, 4, 5, 6, 7, 8, 9, 10], [0, 1, 2, 3, 4, 5, 6, 7, 8, 9, 10, 11], [0, 1, 2, 3, 4, 5, 6, 7, 8, 9, 10, 11, 12], [0, 1, 2, 3, 4, 5, 6, 7, 8, 9, 10, 11, 12, 13]] (ol [0, 1, 2, 3, 4, 5, 6, 7, 8, 9, 10, 11, 12, 13, 14] .nil))))))) .none)))
theorem arena_Arena_Put_call {x0 : Option Addr} {x1 : Array Value} {R : Value → World → Prop} {w : World} (h : arena_Arena_Put x0 x1 R w) : call Try.prog 25 #[.pointer x0, .agg x1] w R :=
  call_of_fnW plain mixed Try.func25 arena_Arena_Put_ann (Eq.mp (by kernel_rfl : arena_Arena_Put x0 x1 R w = fnW Try.prog Try.f25 arena_Arena_Put_ann #[.pointer x0, .agg x1] R w) h)

def arena_Arena_All (x0 : Option Addr) (R : Value → World → Prop) (w : World) : Prop :=
  new #[.pointer x0] 68 w fun k1 w1 =>
  R (.func (.func 37) #[] #[.pointer (some (⟨k1, 0, none⟩ : Addr))]) w1
@[irreducible] def arena_Arena_All_ann : Ann := .none
theorem arena_Arena_All_call {x0 : Option Addr} {R : Value → World → Prop} {w : World} (h : arena_Arena_All x0 R w) : call Try.prog 26 #[.pointer x0] w R :=
  call_of_fnW plain mixed Try.func26 arena_Arena_All_ann (Eq.mp (by kernel_rfl : arena_Arena_All x0 R w = fnW Try.prog Try.f26 arena_Arena_All_ann #[.pointer x0] R w) h)

def arena_Arena_Drop (x0 : Option Addr) (x1 : Int) (R : Value → World → Prop) (w : World) : Prop :=
  new #[.int .i64 0, .int .u32 0, .int .u32 0, .int .u64 0, .int .u64 0, .int .u8 0, .int .u8 0, .int .u8 0, .int .u8 0, .int .u8 0, .int .u8 0, .int .u8 0, .int .u8 0, .int .u8 0, .int .u8 0, .int .u8 0, .int .u8 0, .int .u8 0, .int .u8 0, .int .u8 0, .int .u8 0, .int .u8 0, .int .u8 0, .int .u8 0, .int .u8 0, .int .u8 0, .int .u8 0, .int .u8 0, .int .u8 0, .int .u8 0, .int .u8 0, .int .u8 0, .int .u8 0, .int .u8 0, .int .u8 0, .int .u8 0, .int .u8 0] 72 w fun k1 w1 =>
  new #[.int .i64 0, .int .u32 0, .int .u32 0, .int .u64 0, .int .u64 0, .int .u8 0, .int .u8 0, .int .u8 0, .int .u8 0, .int .u8 0, .int .u8 0, .int .u8 0, .int .u8 0, .int .u8 0, .int .u8 0, .int .u8 0, .int .u8 0, .int .u8 0, .int .u8 0, .int .u8 0, .int .u8 0, .int .u8 0, .int .u8 0, .int .u8 0, .int .u8 0, .int .u8 0, .int .u8 0, .int .u8 0, .int .u8 0, .int .u8 0, .int .u8 0, .int .u8 0, .int .u8 0, .int .u8 0, .int .u8 0, .int .u8 0, .int .u8 0] 72 w1 fun k2 w2 =>
  call Try.prog 38 #[.pointer x0, .int .u64 x1] w2 fun v3 w3 =>
  ∃ (p4 : Option Addr) (n5 : Int),
  v3 = .tuple #[.pointer p4, .int .i64 n5] ∧
  br p4.isNone (
  ldA (⟨k2, 0, none⟩ : Addr) 37 w3 fun g6 =>
  stA Try.prog (⟨k1, 0, none⟩ : Addr) 37 g6 w3 fun w4 =>
  ldA (⟨k1, 0, none⟩ : Addr) 37 w4 fun g7 =>
  R (.tuple #[.agg g7, .int .i64 2]) w4) (
  nn p4 fun a8 =>
  ldA (a8.add 0) 37 w3 fun g9 =>
  new #[.int .i64 0, .int .u32 0, .int .u32 0, .int .u64 0, .int .u64 0, .int .u8 0, .int .u8 0, .int .u8 0, .int .u8 0, .int .u8 0, .int .u8 0, .int .u8 0, .int .u8 0, .int .u8 0, .int .u8 0, .int .u8 0, .int .u8 0, .int .u8 0, .int .u8 0, .int .u8 0, .int .u8 0, .int .u8 0, .int .u8 0, .int .u8 0, .int .u8 0, .int .u8 0, .int .u8 0, .int .u8 0, .int .u8 0, .int .u8 0, .int .u8 0, .int .u8 0, .int .u8 0, .int .u8 0, .int .u8 0, .int .u8 0, .int .u8 0] 72 w3 fun k10 w5 =>
  stA Try.prog (⟨k10, 0, none⟩ : Addr) 37 g9 w5 fun w6 =>
  ldA (⟨k2, 0, none⟩ : Addr) 37 w6 fun g11 =>
  nn p4 fun a12 =>
  stA Try.prog (a12.add 0) 37 g11 w6 fun w7 =>
  nn p4 fun a13 =>
  st (a13.add 38) (.bool false) w7 fun w8 =>
  nn x0 fun a14 =>
  ldI .i64 (a14.add 4) w8 fun n15 =>
  arith .i64 (n15 - 1) fun n16 =>
  nn x0 fun a17 =>
  st (a17.add 4) (.int .i64 n16) w8 fun w9 =>
  nn p4 fun a18 =>
  ldI .u32 (a18.add 37) w9 fun n19 =>
  br (decide ((n19 : Int) < 4294967295)) (
  nn p4 fun a20 =>
  ldI .u32 (a20.add 37) w9 fun n21 =>
  arith .u32 (n21 + 1) fun n22 =>
  nn p4 fun a23 =>
  st (a23.add 37) (.int .u32 n22) w9 fun w10 =>
  nn x0 fun a24 =>
  ldS (a24.add 3) w10 fun p25 l25 c25 =>
  new #[.int .i64 n5] 3 w10 fun k26 w11 =>
  runsS Try.prog (Builtin.append_ #[89, 89] 89 #[.slice p25 l25 c25, .slice (some (⟨k26, 0, none⟩ : Addr)) 1 1]) w11 fun p27 l27 c27 w12 =>
  nn x0 fun a28 =>
  st (a28.add 3) (.slice p27 l27 c27) w12 fun w13 =>
  ldA (⟨k10, 0, none⟩ : Addr) 37 w13 fun g29 =>
  stA Try.prog (⟨k1, 0, none⟩ : Addr) 37 g29 w13 fun w14 =>
  ldA (⟨k1, 0, none⟩ : Addr) 37 w14 fun g30 =>
  R (.tuple #[.agg g30, .int .i64 0]) w14) (
  ldA (⟨k10, 0, none⟩ : Addr) 37 w9 fun g31 =>
  stA Try.prog (⟨k1, 0, none⟩ : Addr) 37 g31 w9 fun w15 =>
  ldA (⟨k1, 0, none⟩ : Addr) 37 w15 fun g32 =>
  R (.tuple #[.agg g32, .int .i64 0]) w15))
@[irreducible] def arena_Arena_Drop_ann : Ann := .none
theorem arena_Arena_Drop_call {x0 : Option Addr} {x1 : Int} {R : Value → World → Prop} {w : World} (h : arena_Arena_Drop x0 x1 R w) : call Try.prog 27 #[.pointer x0, .int .u64 x1] w R :=
  call_of_fnW plain mixed Try.func27 arena_Arena_Drop_ann (Eq.mp (by kernel_rfl : arena_Arena_Drop x0 x1 R w = fnW Try.prog Try.f27 arena_Arena_Drop_ann #[.pointer x0, .int .u64 x1] R w) h)

def arena_Arena_Get (x0 : Option Addr) (x1 : Int) (R : Value → World → Prop) (w : World) : Prop :=
  new #[.int .i64 0, .int .u32 0, .int .u32 0, .int .u64 0, .int .u64 0, .int .u8 0, .int .u8 0, .int .u8 0, .int .u8 0, .int .u8 0, .int .u8 0, .int .u8 0, .int .u8 0, .int .u8 0, .int .u8 0, .int .u8 0, .int .u8 0, .int .u8 0, .int .u8 0, .int .u8 0, .int .u8 0, .int .u8 0, .int .u8 0, .int .u8 0, .int .u8 0, .int .u8 0, .int .u8 0, .int .u8 0, .int .u8 0, .int .u8 0, .int .u8 0, .int .u8 0, .int .u8 0, .int .u8 0, .int .u8 0, .int .u8 0, .int .u8 0] 72 w fun k1 w1 =>
  call Try.prog 38 #[.pointer x0, .int .u64 x1] w1 fun v2 w2 =>
  ∃ (p3 : Option Addr) (n4 : Int),
  v2 = .tuple #[.pointer p3, .int .i64 n4] ∧
  br p3.isNone (
  new #[.int .i64 0, .int .u32 0, .int .u32 0, .int .u64 0, .int .u64 0, .int .u8 0, .int .u8 0, .int .u8 0, .int .u8 0, .int .u8 0, .int .u8 0, .int .u8 0, .int .u8 0, .int .u8 0, .int .u8 0, .int .u8 0, .int .u8 0, .int .u8 0, .int .u8 0, .int .u8 0, .int .u8 0, .int .u8 0, .int .u8 0, .int .u8 0, .int .u8 0, .int .u8 0, .int .u8 0, .int .u8 0, .int .u8 0, .int .u8 0, .int .u8 0, .int .u8 0, .int .u8 0, .int .u8 0, .int .u8 0, .int .u8 0, .int .u8 0] 72 w2 fun k5 w3 =>
  ldA (⟨k5, 0, none⟩ : Addr) 37 w3 fun g6 =>
  stA Try.prog (⟨k1, 0, none⟩ : Addr) 37 g6 w3 fun w4 =>
  ldA (⟨k1, 0, none⟩ : Addr) 37 w4 fun g7 =>
  R (.tuple #[.agg g7, .int .i64 2]) w4) (
  nn p3 fun a8 =>
  ldA (a8.add 0) 37 w2 fun g9 =>
  stA Try.prog (⟨k1, 0, none⟩ : Addr) 37 g9 w2 fun w5 =>
  ldA (⟨k1, 0, none⟩ : Addr) 37 w5 fun g10 =>
  R (.tuple #[.agg g10, .int .i64 0]) w5)
@[irreducible] def arena_Arena_Get_ann : Ann := .none
theorem arena_Arena_Get_call {x0 : Option Addr} {x1 : Int} {R : Value → World → Prop} {w : World} (h : arena_Arena_Get x0 x1 R w) : call Try.prog 28 #[.pointer x0, .int .u64 x1] w R :=
  call_of_fnW plain mixed Try.func28 arena_Arena_Get_ann (Eq.mp (by kernel_rfl : arena_Arena_Get x0 x1 R w = fnW Try.prog Try.f28 arena_Arena_Get_ann #[.pointer x0, .int .u64 x1] R w) h)

def tenonref02_New (x0 : Int) (x1 : Int) (R : Value → World → Prop) (w : World) : Prop :=
  br (decide ((x0 : Int) < 1)) (
  R (.pointer none) w) (
  br (decide ((x0 : Int) > 65536)) (
  R (.pointer none) w) (
  br ((x1 : Int) == 0) (
  R (.pointer none) w) (
  new #[.int .i64 x0, .int .u32 x1, .slice none 0 0, .slice none 0 0] 91 w fun k1 w1 =>
  R (.pointer (some (⟨k1, 0, none⟩ : Addr))) w1)))
@[irreducible] def tenonref02_New_ann : Ann := .none
theorem tenonref02_New_call {x0 : Int} {x1 : Int} {R : Value → World → Prop} {w : World} (h : tenonref02_New x0 x1 R w) : call Try.prog 29 #[.int .i64 x0, .int .u32 x1] w R :=
  call_of_fnW plain mixed Try.func29 tenonref02_New_ann (Eq.mp (by kernel_rfl : tenonref02_New x0 x1 R w = fnW Try.prog Try.f29 tenonref02_New_ann #[.int .i64 x0, .int .u32 x1] R w) h)

def tenonref19_Table_Put (x0 : Option Addr) (x1 : Int) (x2 : Array Value) (R : Value → World → Prop) (w : World) : Prop :=
  new x2 34 w fun k1 w1 =>
  ldI .u32 ((⟨k1, 0, none⟩ : Addr).add 0) w1 fun n2 =>
  br ((n2 : Int) == 0) (
  R (.tuple #[.int .u64 0, .int .i64 1]) w1) (
  ldA (⟨k1, 0, none⟩ : Addr) 36 w1 fun g3 =>
  call Try.prog 39 #[.agg g3] w1 fun v4 w2 =>
  asB v4 fun b5 =>
  br (!b5) (
  R (.tuple #[.int .u64 0, .int .i64 1]) w2) (
  nn x0 fun a6 =>
  ldP (a6.add 0) w2 fun p7 =>
  call Try.prog 40 #[.pointer p7, .int .i64 0] w2 fun v8 w3 =>
  asI .u64 v8 fun n9 =>
  br ((n9 : Int) == 0) (
  R (.tuple #[.int .u64 0, .int .i64 3]) w3) (
  nn x0 fun a10 =>
  ldS (a10.add 1) w3.drew fun p11 l11 c11 =>
  ldA (⟨k1, 0, none⟩ : Addr) 36 w3.drew fun g12 =>
  (g12 : Array Value).size = 36 ∧
  ((((#[] ++ #[.int .u64 n9]) ++ #[.int .i64 x1]) ++ g12) : Array Value).size = 38 ∧
  new (((#[] ++ #[.int .u64 n9]) ++ #[.int .i64 x1]) ++ g12) 61 w3.drew fun k13 w4 =>
  runsS Try.prog (Builtin.append_ #[53, 53] 53 #[.slice p11 l11 c11, .slice (some (⟨k13, 0, none⟩ : Addr)) 1 1]) w4 fun p14 l14 c14 w5 =>
  nn x0 fun a15 =>
  st (a15.add 1) (.slice p14 l14 c14) w5 fun w6 =>
  R (.tuple #[.int .u64 n9, .int .i64 0]) w6)))
@[irreducible] def tenonref19_Table_Put_ann : Ann := .seq .none (.seq .none (.seq .none (.seq .none (.seq (.draw [[], [], [1], [1, 2], [1, 2, 3], [], [], [], [5, 6, 7], [5, 6, 7, 8], [1, 2, 3, 4, 5, 6, 7, 8, 9], [0, 1, 2, 3, 4, 5, 6, 7, 8, 9, 10], [0, 1, 2, 3, 4, 5, 6, 7, 8, 9, 10, 11], [0, 1, 2, 3, 4, 5, 6, 7, 8, 9, 10, 11, 12]] (ol [0, 1, 2, 3, 4, 5, 6, 7, 8, 9, 10, 11, 12, 13] .nil)) .none))))
theorem tenonref19_Table_Put_call {x0 : Option Addr} {x1 : Int} {x2 : Array Value} {R : Value → World → Prop} {w : World} (h : tenonref19_Table_Put x0 x1 x2 R w) : call Try.prog 30 #[.pointer x0, .int .i64 x1, .agg x2] w R :=
  call_of_fnW plain mixed Try.func30 tenonref19_Table_Put_ann (Eq.mp (by kernel_rfl : tenonref19_Table_Put x0 x1 x2 R w = fnW Try.prog Try.f30 tenonref19_Table_Put_ann #[.pointer x0, .int .i64 x1, .agg x2] R w) h)

def tenonref19_Table_Drop (x0 : Option Addr) (x1 : Int) (R : Value → World → Prop) (w : World) : Prop :=
  new #[.int .u32 0, .int .u32 0, .int .u64 0, .int .u64 0, .int .u8 0, .int .u8 0, .int .u8 0, .int .u8 0, .int .u8 0, .int .u8 0, .int .u8 0, .int .u8 0, .int .u8 0, .int .u8 0, .int .u8 0, .int .u8 0, .int .u8 0, .int .u8 0, .int .u8 0, .int .u8 0, .int .u8 0, .int .u8 0, .int .u8 0, .int .u8 0, .int .u8 0, .int .u8 0, .int .u8 0, .int .u8 0, .int .u8 0, .int .u8 0, .int .u8 0, .int .u8 0, .int .u8 0, .int .u8 0, .int .u8 0, .int .u8 0] 34 w fun k1 w1 =>
  call Try.prog 20 #[.pointer x0, .int .u64 x1] w1 fun v2 w2 =>
  asI .i64 v2 fun n3 =>
  br (decide ((n3 : Int) < 0)) (
  stA Try.prog (⟨k1, 0, none⟩ : Addr) 36 #[.int .u32 0, .int .u32 0, .int .u64 0, .int .u64 0, .int .u8 0, .int .u8 0, .int .u8 0, .int .u8 0, .int .u8 0, .int .u8 0, .int .u8 0, .int .u8 0, .int .u8 0, .int .u8 0, .int .u8 0, .int .u8 0, .int .u8 0, .int .u8 0, .int .u8 0, .int .u8 0, .int .u8 0, .int .u8 0, .int .u8 0, .int .u8 0, .int .u8 0, .int .u8 0, .int .u8 0, .int .u8 0, .int .u8 0, .int .u8 0, .int .u8 0, .int .u8 0, .int .u8 0, .int .u8 0, .int .u8 0, .int .u8 0] w2 fun w3 =>
  ldA (⟨k1, 0, none⟩ : Addr) 36 w3 fun g4 =>
  R (.tuple #[.agg g4, .int .i64 2]) w3) (
  nn x0 fun a5 =>
  ldS (a5.add 1) w2 fun p6 l6 c6 =>
  idx p6 l6 n3 38 fun a7 =>
  ldA (a7.add 2) 36 w2 fun g8 =>
  new #[.int .u32 0, .int .u32 0, .int .u64 0, .int .u64 0, .int .u8 0, .int .u8 0, .int .u8 0, .int .u8 0, .int .u8 0, .int .u8 0, .int .u8 0, .int .u8 0, .int .u8 0, .int .u8 0, .int .u8 0, .int .u8 0, .int .u8 0, .int .u8 0, .int .u8 0, .int .u8 0, .int .u8 0, .int .u8 0, .int .u8 0, .int .u8 0, .int .u8 0, .int .u8 0, .int .u8 0, .int .u8 0, .int .u8 0, .int .u8 0, .int .u8 0, .int .u8 0, .int .u8 0, .int .u8 0, .int .u8 0, .int .u8 0] 34 w2 fun k9 w4 =>
  stA Try.prog (⟨k9, 0, none⟩ : Addr) 36 g8 w4 fun w5 =>
  nn x0 fun a10 =>
  ldS (a10.add 1) w5 fun p11 l11 c11 =>
  slc p11 c11 38 0 n3 fun p12 l12 c12 =>
  runsS Try.prog (Builtin.append_ #[53, 53] 53 #[.slice none 0 0, .slice p12 l12 c12]) w5 fun p13 l13 c13 w6 =>
  nn x0 fun a14 =>
  ldS (a14.add 1) w6 fun p15 l15 c15 =>
  arith .i64 (n3 + 1) fun n16 =>
  slc p15 c15 38 n16 ((l15 : Int)) fun p17 l17 c17 =>
  runsS Try.prog (Builtin.append_ #[53, 53] 53 #[.slice p13 l13 c13, .slice p17 l17 c17]) w6 fun p18 l18 c18 w7 =>
  nn x0 fun a19 =>
  st (a19.add 1) (.slice p18 l18 c18) w7 fun w8 =>
  nn x0 fun a20 =>
  ldP (a20.add 0) w8.drew fun p21 =>
  nn x0 fun a22 =>
  ldP (a22.add 0) w8.drew fun p23 =>
  call Try.prog 42 #[.pointer p23, .int .u64 x1] w8.drew fun v24 w9 =>
  asI .i64 v24 fun n25 =>
  w9.cell? (a20.add 0) = some (.pointer p21) ∧
  call Try.prog 41 #[.pointer p21, .int .i64 n25] w9 fun v26 w10 =>
  v26 = .tuple #[] ∧
  ldA (⟨k9, 0, none⟩ : Addr) 36 w10 fun g27 =>
  stA Try.prog (⟨k1, 0, none⟩ : Addr) 36 g27 w10 fun w11 =>
  ldA (⟨k1, 0, none⟩ : Addr) 36 w11 fun g28 =>
  R (.tuple #[.agg g28, .int .i64 0]) w11)
@[irreducible] def tenonref19_Table_Drop_ann : Ann := .seq .none (.seq .none (.seq .none (.seq .none (.seq .none (.seq .none (.seq .none (.seq (.draw [[], [0], [0, 1], [0, 1, 2], [], [4], [4, 5], [4, 5, 6], [], [4, 5, 6, 7, 8], [0, 1, 2, 3, 4, 5, 6, 7, 8, 9]] (ol [0, 1, 2, 3, 4, 5, 6, 7, 8, 9, 10] .nil)) .none)))))))
theorem tenonref19_Table_Drop_call {x0 : Option Addr} {x1 : Int} {R : Value → World → Prop} {w : World} (h : tenonref19_Table_Drop x0 x1 R w) : call Try.prog 31 #[.pointer x0, .int .u64 x1] w R :=
  call_of_fnW plain mixed Try.func31 tenonref19_Table_Drop_ann (Eq.mp (by kernel_rfl : tenonref19_Table_Drop x0 x1 R w = fnW Try.prog Try.f31 tenonref19_Table_Drop_ann #[.pointer x0, .int .u64 x1] R w) h)

def tenonref18_SameRefs (x0 : Option Addr) (y0 z0 : Nat) (x1 : Option Addr) (y1 z1 : Nat) (R : Value → World → Prop) (w : World) : Prop :=
  br ((y0 : Int) != (y1 : Int)) (
  R (.bool false) w) (
  ∃ I1 : Int → World → Nat → Prop, (∃ m2, I1 0 w m2) ∧
  ∀ (u3 : Nat → Value) (n4 : Int) (w1 : World) (m5 : Nat), I1 n4 w1 m5 →
  br (decide ((n4 : Int) < (y0 : Int))) (
  idx x0 y0 n4 36 fun a6 =>
  ldA a6 36 w1.drew fun g7 =>
  idx x1 y1 n4 36 fun a8 =>
  ldA a8 36 w1.drew fun g9 =>
  still Try.prog (Op.equal 34 (.agg g7) (.agg g9)) fun b10 =>
  br (!b10) (
  R (.bool false) w1.drew) (
  arith .i64 (n4 + 1) fun n11 =>
  ∃ m12, m12 < m5 ∧ I1 n11 w1.drew m12)) (
  R (.bool true) w1))
@[irreducible] def tenonref18_SameRefs_ann : Ann := .seq .none (.seq .none (.seq (.seq .none (.one (.loop [(5, .int .i64)] (.seq .none (.seq (.one (.seq (.draw [[], [], [0, 1], [0, 1, 2], [], [], [4, 5], [4, 5, 6], [0, 1, 2, 3, 4, 5, 6, 7]] (ol [0, 1, 2, 3, 4, 5, 6, 7, 8] .nil)) .none)) .none))))) .none))
theorem tenonref18_SameRefs_call {x0 : Option Addr} {y0 z0 : Nat} {x1 : Option Addr} {y1 z1 : Nat} {R : Value → World → Prop} {w : World} (h : tenonref18_SameRefs x0 y0 z0 x1 y1 z1 R w) : call Try.prog 32 #[.slice x0 y0 z0, .slice x1 y1 z1] w R :=
  call_of_fnW plain mixed Try.func32 tenonref18_SameRefs_ann (Eq.mp (by kernel_rfl : tenonref18_SameRefs x0 y0 z0 x1 y1 z1 R w = fnW Try.prog Try.f32 tenonref18_SameRefs_ann #[.slice x0 y0 z0, .slice x1 y1 z1] R w) h)

def tenonref19_Table_Leave (x0 : Option Addr) (x1 : Int) (R : Value → World → Prop) (w : World) : Prop :=
  nn x0 fun a1 =>
  ldP (a1.add 0) w fun p2 =>
  call Try.prog 17 #[.pointer p2] w fun v3 w1 =>
  asS v3 fun p4 l4 c4 =>
  ∃ I5 : Option Addr → Nat → Nat → Int → World → Nat → Prop, (∃ m6, I5 none 0 0 0 w1 m6) ∧
  ∀ (u7 : Nat → Value) (p8 : Option Addr) (l8 c8 : Nat) (n9 : Int) (w2 : World) (m10 : Nat), I5 p8 l8 c8 n9 w2 m10 →
  br (decide ((n9 : Int) < (l4 : Int))) (
  nn x0 fun a11 =>
  ldS (a11.add 1) w2.drew fun p12 l12 c12 =>
  idx p4 l4 n9 1 fun a13 =>
  ldI .u64 a13 w2.drew fun n14 =>
  call Try.prog 20 #[.pointer x0, .int .u64 n14] w2.drew fun v15 w3 =>
  asI .i64 v15 fun n16 =>
  w3.cell? (a11.add 1) = some (.slice p12 l12 c12) ∧
  idx p12 l12 n16 38 fun a17 =>
  ldI .i64 (a17.add 1) w3 fun n18 =>
  br ((n18 : Int) == x1) (
  idx p4 l4 n9 1 fun a19 =>
  ldI .u64 a19 w3 fun n20 =>
  call Try.prog 31 #[.pointer x0, .int .u64 n20] w3 fun v21 w4 =>
  ∃ (g22 : Array Value) (n23 : Int),
  v21 = .tuple #[.agg g22, .int .i64 n23] ∧
  new #[.int .u32 0, .int .u32 0, .int .u64 0, .int .u64 0, .int .u8 0, .int .u8 0, .int .u8 0, .int .u8 0, .int .u8 0, .int .u8 0, .int .u8 0, .int .u8 0, .int .u8 0, .int .u8 0, .int .u8 0, .int .u8 0, .int .u8 0, .int .u8 0, .int .u8 0, .int .u8 0, .int .u8 0, .int .u8 0, .int .u8 0, .int .u8 0, .int .u8 0, .int .u8 0, .int .u8 0, .int .u8 0, .int .u8 0, .int .u8 0, .int .u8 0, .int .u8 0, .int .u8 0, .int .u8 0, .int .u8 0, .int .u8 0] 34 w4 fun k24 w5 =>
  stA Try.prog (⟨k24, 0, none⟩ : Addr) 36 g22 w5 fun w6 =>
  ldA (⟨k24, 0, none⟩ : Addr) 36 w6 fun g25 =>
  (g25 : Array Value).size = 36 ∧
  new g25 34 w6 fun k26 w7 =>
  runsS Try.prog (Builtin.append_ #[39, 39] 39 #[.slice p8 l8 c8, .slice (some (⟨k26, 0, none⟩ : Addr)) 1 1]) w7 fun p27 l27 c27 w8 =>
  arith .i64 (n9 + 1) fun n28 =>
  ∃ m29, m29 < m10 ∧ I5 p27 l27 c27 n28 w8 m29) (
  arith .i64 (n9 + 1) fun n30 =>
  ∃ m31, m31 < m10 ∧ I5 p8 l8 c8 n30 w3 m31)) (
  R (.slice p8 l8 c8) w2)
@[irreducible] def tenonref19_Table_Leave_ann : Ann := .seq .none (.seq .none (.seq .none (.seq (.seq .none (.one (.loop [(5, .slice), (7, .int .i64)] (.seq .none (.seq (.one (.seq (.draw [[], [0], [0, 1], [0, 1, 2], [], [], [], [5, 6], [5, 6, 7], [4, 5, 6, 7, 8], [0, 1, 2, 3, 4, 5, 6, 7, 8, 9], [0, 1, 2, 3, 4, 5, 6, 7, 8, 9, 10], [0, 1, 2, 3, 4, 5, 6, 7, 8, 9, 10, 11], [], [0, 1, 2, 3, 4, 5, 6, 7, 8, 9, 10, 11, 12, 13]] (ol [0, 1, 2, 3, 4, 5, 6, 7, 8, 13, 9, 10, 11, 12, 14] .nil)) .none)) .none))))) .none)))
theorem tenonref19_Table_Leave_call {x0 : Option Addr} {x1 : Int} {R : Value → World → Prop} {w : World} (h : tenonref19_Table_Leave x0 x1 R w) : call Try.prog 33 #[.pointer x0, .int .i64 x1] w R :=
  call_of_fnW plain mixed Try.func33 tenonref19_Table_Leave_ann (Eq.mp (by kernel_rfl : tenonref19_Table_Leave x0 x1 R w = fnW Try.prog Try.f33 tenonref19_Table_Leave_ann #[.pointer x0, .int .i64 x1] R w) h)

def tenonref02_Handle (x0 : Int) (x1 : Int) (R : Value → World → Prop) (w : World) : Prop :=
  arith .u64 x1 fun n1 =>
  arith .u64 (n1 * 4294967296) fun n2 =>
  arith .u64 x0 fun n3 =>
  arith .u64 (n2 + n3) fun n4 =>
  arith .u64 (n4 + 1) fun n5 =>
  R (.int .u64 n5) w
@[irreducible] def tenonref02_Handle_ann : Ann := .none
theorem tenonref02_Handle_call {x0 : Int} {x1 : Int} {R : Value → World → Prop} {w : World} (h : tenonref02_Handle x0 x1 R w) : call Try.prog 34 #[.int .i64 x0, .int .u32 x1] w R :=
  call_of_fnW plain mixed Try.func34 tenonref02_Handle_ann (Eq.mp (by kernel_rfl : tenonref02_Handle x0 x1 R w = fnW Try.prog Try.f34 tenonref02_Handle_ann #[.int .i64 x0, .int .u32 x1] R w) h)

def git_Table_All (x0 : Option Addr) (R : Value → World → Prop) (w : World) : Prop :=
  new #[.pointer x0] 23 w fun k1 w1 =>
  R (.func (.func 43) #[] #[.pointer (some (⟨k1, 0, none⟩ : Addr))]) w1
@[irreducible] def git_Table_All_ann : Ann := .none
theorem git_Table_All_call {x0 : Option Addr} {R : Value → World → Prop} {w : World} (h : git_Table_All x0 R w) : call Try.prog 35 #[.pointer x0] w R :=
  call_of_fnW plain mixed Try.func35 git_Table_All_ann (Eq.mp (by kernel_rfl : git_Table_All x0 R w = fnW Try.prog Try.f35 git_Table_All_ann #[.pointer x0] R w) h)

def arena_handle (x0 : Int) (x1 : Int) (R : Value → World → Prop) (w : World) : Prop :=
  arith .u64 x1 fun n1 =>
  shl .u64 n1 32 fun n2 =>
  arith .i64 (x0 + 1) fun n3 =>
  arith .u64 n3 fun n4 =>
  R (.int .u64 (bitw .or .u64 n2 n4)) w
@[irreducible] def arena_handle_ann : Ann := .none
theorem arena_handle_call {x0 : Int} {x1 : Int} {R : Value → World → Prop} {w : World} (h : arena_handle x0 x1 R w) : call Try.prog 36 #[.int .i64 x0, .int .u32 x1] w R :=
  call_of_fnW plain mixed Try.func36 arena_handle_ann (Eq.mp (by kernel_rfl : arena_handle x0 x1 R w = fnW Try.prog Try.f36 arena_handle_ann #[.int .i64 x0, .int .u32 x1] R w) h)

def arena_Arena_All_1 (x0 : Fn) (y0 z0 : Array Value) (x1 : Addr) (R : Value → World → Prop) (w : World) : Prop :=
  ldP x1 w fun p1 =>
  br p1.isNone (
  R (.tuple #[]) w) (
  new #[] 102 w fun k2 w1 =>
  ldP x1 w1 fun p3 =>
  nn p3 fun a4 =>
  ldS (a4.add 2) w1 fun p5 l5 c5 =>
  runsS Try.prog (Builtin.append_ #[98, 98] 98 #[.slice (some (⟨k2, 0, none⟩ : Addr)) 0 0, .slice p5 l5 c5]) w1 fun p6 l6 c6 w2 =>
  ∃ I7 : Int → World → Nat → Prop, (∃ m8, I7 0 w2 m8) ∧
  ∀ (u9 : Nat → Value) (n10 : Int) (w3 : World) (m11 : Nat), I7 n10 w3 m11 →
  br (decide ((n10 : Int) < (l6 : Int))) (
  idx p6 l6 n10 39 fun a12 =>
  ldA a12 39 w3 fun g13 =>
  new #[.int .i64 0, .int .u32 0, .int .u32 0, .int .u64 0, .int .u64 0, .int .u8 0, .int .u8 0, .int .u8 0, .int .u8 0, .int .u8 0, .int .u8 0, .int .u8 0, .int .u8 0, .int .u8 0, .int .u8 0, .int .u8 0, .int .u8 0, .int .u8 0, .int .u8 0, .int .u8 0, .int .u8 0, .int .u8 0, .int .u8 0, .int .u8 0, .int .u8 0, .int .u8 0, .int .u8 0, .int .u8 0, .int .u8 0, .int .u8 0, .int .u8 0, .int .u8 0, .int .u8 0, .int .u8 0, .int .u8 0, .int .u8 0, .int .u8 0, .int .u32 0, .bool false] 102 w3 fun k14 w4 =>
  stA Try.prog (⟨k14, 0, none⟩ : Addr) 39 g13 w4 fun w5 =>
  ldB ((⟨k14, 0, none⟩ : Addr).add 38) w5.drew fun b15 =>
  br b15 (
  ldI .u32 ((⟨k14, 0, none⟩ : Addr).add 37) w5.drew fun n16 =>
  ldA ((⟨k14, 0, none⟩ : Addr).add 0) 37 w5.drew fun g17 =>
  call Try.prog 36 #[.int .i64 n10, .int .u32 n16] w5.drew fun v18 w6 =>
  asI .u64 v18 fun n19 =>
  keepS (cellsOf ((⟨k14, 0, none⟩ : Addr).add 0) g17) w6 (
  callV Try.prog x0 y0 z0 #[.int .u64 n19, .agg g17] w6 fun v20 w7 =>
  asB v20 fun b21 =>
  br (!b21) (
  R (.tuple #[]) w7) (
  arith .i64 (n10 + 1) fun n22 =>
  ∃ m23, m23 < m11 ∧ I7 n22 w7 m23))) (
  arith .i64 (n10 + 1) fun n24 =>
  ∃ m25, m25 < m11 ∧ I7 n24 w5.drew m25)) (
  R (.tuple #[]) w3))
@[irreducible] def arena_Arena_All_1_ann : Ann := .seq .none (.seq .none (.one (.loop [(14, .int .i64)] (.seq .none (.seq .none (.seq (.one (.seq .none (.seq (.draw [[], [0], [0, 1], [0, 1, 2], [0, 1, 2], [0, 1, 2], [0, 1, 2, 5], [0, 1, 2, 4, 5, 6], [0, 1, 2], [0, 1, 2, 8], [0, 1, 2, 3, 4, 5, 6, 7, 8, 9], [0, 1, 2, 3, 4, 5, 6, 7, 8, 9, 10], [0, 1, 2, 3, 4, 5, 6, 7, 8, 9, 10, 11]] (ol [0, 1, 2, 3, 4, 5, 6, 8, 9, 7, 10, 11, 12] .nil)) .none))) .none))))))
theorem arena_Arena_All_1_call {x0 : Fn} {y0 z0 : Array Value} {x1 : Addr} {R : Value → World → Prop} {w : World} (h : arena_Arena_All_1 x0 y0 z0 x1 R w) : call Try.prog 37 #[.func x0 y0 z0, .pointer (some x1)] w R :=
  call_of_fnW plain mixed Try.func37 arena_Arena_All_1_ann (Eq.mp (by kernel_rfl : arena_Arena_All_1 x0 y0 z0 x1 R w = fnW Try.prog Try.f37 arena_Arena_All_1_ann #[.func x0 y0 z0, .pointer (some x1)] R w) h)

def arena_Arena_find (x0 : Option Addr) (x1 : Int) (R : Value → World → Prop) (w : World) : Prop :=
  call Try.prog 44 #[.int .u64 x1] w fun v1 w1 =>
  ∃ (n2 : Int) (n3 : Int),
  v1 = .tuple #[.int .i64 n2, .int .u32 n3] ∧
  br x0.isNone (
  R (.tuple #[.pointer none, .int .i64 0]) w1) (
  br (decide ((n2 : Int) < 0)) (
  R (.tuple #[.pointer none, .int .i64 0]) w1) (
  nn x0 fun a4 =>
  ldS (a4.add 2) w1 fun p5 l5 c5 =>
  br (decide ((n2 : Int) ≥ (l5 : Int))) (
  R (.tuple #[.pointer none, .int .i64 0]) w1) (
  nn x0 fun a6 =>
  ldS (a6.add 2) w1 fun p7 l7 c7 =>
  idx p7 l7 n2 39 fun a8 =>
  ldB (a8.add 38) w1 fun b9 =>
  br (!b9) (
  R (.tuple #[.pointer none, .int .i64 0]) w1) (
  ldI .u32 (a8.add 37) w1 fun n10 =>
  br ((n10 : Int) != n3) (
  R (.tuple #[.pointer none, .int .i64 0]) w1) (
  R (.tuple #[.pointer (some a8), .int .i64 n2]) w1)))))
@[irreducible] def arena_Arena_find_ann : Ann := .none
theorem arena_Arena_find_call {x0 : Option Addr} {x1 : Int} {R : Value → World → Prop} {w : World} (h : arena_Arena_find x0 x1 R w) : call Try.prog 38 #[.pointer x0, .int .u64 x1] w R :=
  call_of_fnW plain mixed Try.func38 arena_Arena_find_ann (Eq.mp (by kernel_rfl : arena_Arena_find x0 x1 R w = fnW Try.prog Try.f38 arena_Arena_find_ann #[.pointer x0, .int .u64 x1] R w) h)

def tenonref07_Right (x0 : Array Value) (R : Value → World → Prop) (w : World) : Prop :=
  new x0 34 w fun k1 w1 =>
  ldI .u32 ((⟨k1, 0, none⟩ : Addr).add 0) w1 fun n2 =>
  br ((n2 : Int) == 0) (
  ldI .u32 ((⟨k1, 0, none⟩ : Addr).add 1) w1 fun n3 =>
  R (.bool (decide ((n3 : Int) > 0))) w1) (
  br ((n2 : Int) == 1) (
  br ((n2 : Int) == 1) (
  ldI .u32 ((⟨k1, 0, none⟩ : Addr).add 1) w1 fun n4 =>
  R (.bool ((n4 : Int) == 0)) w1) (
  R (.bool false) w1)) (
  br ((n2 : Int) == 2) (
  ldI .u32 ((⟨k1, 0, none⟩ : Addr).add 1) w1 fun n5 =>
  R (.bool ((n5 : Int) == 0)) w1) (
  R (.bool false) w1)))
@[irreducible] def tenonref07_Right_ann : Ann := .none
theorem tenonref07_Right_call {x0 : Array Value} {R : Value → World → Prop} {w : World} (h : tenonref07_Right x0 R w) : call Try.prog 39 #[.agg x0] w R :=
  call_of_fnW plain mixed Try.func39 tenonref07_Right_ann (Eq.mp (by kernel_rfl : tenonref07_Right x0 R w = fnW Try.prog Try.f39 tenonref07_Right_ann #[.agg x0] R w) h)

def tenonref02_Arena_Put (x0 : Option Addr) (x1 : Int) (R : Value → World → Prop) (w : World) : Prop :=
  nn x0 fun a1 =>
  ldS (a1.add 3) w fun p2 l2 c2 =>
  nn x0 fun a3 =>
  ldS (a3.add 2) w fun p4 l4 c4 =>
  br (decide ((l2 : Int) > 0)) (
  nn x0 fun a5 =>
  ldS (a5.add 3) w fun p6 l6 c6 =>
  arith .i64 ((l2 : Int) - 1) fun n7 =>
  idx p6 l6 n7 1 fun a8 =>
  ldI .i64 a8 w fun n9 =>
  nn x0 fun a10 =>
  ldS (a10.add 3) w fun p11 l11 c11 =>
  arith .i64 ((l2 : Int) - 1) fun n12 =>
  slc p11 c11 1 0 n12 fun p13 l13 c13 =>
  nn x0 fun a14 =>
  st (a14.add 3) (.slice p13 l13 c13) w fun w1 =>
  nn x0 fun a15 =>
  ldS (a15.add 2) w1 fun p16 l16 c16 =>
  idx p16 l16 n9 3 fun a17 =>
  st (a17.add 0) (.int .i64 x1) w1 fun w2 =>
  nn x0 fun a18 =>
  ldS (a18.add 2) w2 fun p19 l19 c19 =>
  idx p19 l19 n9 3 fun a20 =>
  st (a20.add 2) (.int .i64 1) w2 fun w3 =>
  nn x0 fun a21 =>
  ldS (a21.add 2) w3 fun p22 l22 c22 =>
  idx p22 l22 n9 3 fun a23 =>
  ldI .u32 (a23.add 1) w3 fun n24 =>
  call Try.prog 34 #[.int .i64 n9, .int .u32 n24] w3 fun v25 w4 =>
  asI .u64 v25 fun n26 =>
  R (.int .u64 n26) w4) (
  nn x0 fun a27 =>
  ldI .i64 (a27.add 0) w fun n28 =>
  br (decide ((l4 : Int) ≥ n28)) (
  R (.int .u64 0) w) (
  nn x0 fun a29 =>
  ldS (a29.add 2) w.drew fun p30 l30 c30 =>
  nn x0 fun a31 =>
  ldI .u32 (a31.add 1) w.drew fun n32 =>
  (#[.int .i64 x1, .int .u32 n32, .int .i64 1] : Array Value).size = 3 ∧
  new #[.int .i64 x1, .int .u32 n32, .int .i64 1] 93 w.drew fun k33 w5 =>
  runsS Try.prog (Builtin.append_ #[88, 88] 88 #[.slice p30 l30 c30, .slice (some (⟨k33, 0, none⟩ : Addr)) 1 1]) w5 fun p34 l34 c34 w6 =>
  nn x0 fun a35 =>
  st (a35.add 2) (.slice p34 l34 c34) w6 fun w7 =>
  nn x0 fun a36 =>
  ldI .u32 (a36.add 1) w7 fun n37 =>
  call Try.prog 34 #[.int .i64 ((l4 : Int)), .int .u32 n37] w7 fun v38 w8 =>
  asI .u64 v38 fun n39 =>
  R (.int .u64 n39) w8))
@[irreducible] def tenonref02_Arena_Put_ann : Ann := .seq .none (.seq .none (.seq .none (.seq .none (.seq .none (.seq (.draw [[], [], [1], [1, 2], [1, 2, 3], [], [], [6], [6, 7], [6, 7, 8], [5, 6, 7, 8, 9], [5, 6, 7, 8, 9, 10], [1, 2, 3, 4, 5, 6, 7, 8, 9, 10, 11], [0, 1, 2, 3, 4, 5, 6, 7, 8, 9, 10, 11, 12], [0, 1, 2, 3, 4, 5, 6, 7, 8, 9, 10, 11, 12, 13], [0, 1, 2, 3, 4, 5, 6, 7, 8, 9, 10, 11, 12, 13, 14]] (ol [0, 1, 2, 3, 4, 5, 6, 7, 8, 9, 10, 11, 12, 13, 14, 15] .nil)) .none)))))
theorem tenonref02_Arena_Put_call {x0 : Option Addr} {x1 : Int} {R : Value → World → Prop} {w : World} (h : tenonref02_Arena_Put x0 x1 R w) : call Try.prog 40 #[.pointer x0, .int .i64 x1] w R :=
  call_of_fnW plain mixed Try.func40 tenonref02_Arena_Put_ann (Eq.mp (by kernel_rfl : tenonref02_Arena_Put x0 x1 R w = fnW Try.prog Try.f40 tenonref02_Arena_Put_ann #[.pointer x0, .int .i64 x1] R w) h)

def tenonref02_Arena_Drop (x0 : Option Addr) (x1 : Int) (R : Value → World → Prop) (w : World) : Prop :=
  nn x0 fun a1 =>
  ldS (a1.add 2) w fun p2 l2 c2 =>
  idx p2 l2 x1 3 fun a3 =>
  st (a3.add 0) (.int .i64 0) w fun w1 =>
  nn x0 fun a4 =>
  ldS (a4.add 2) w1 fun p5 l5 c5 =>
  idx p5 l5 x1 3 fun a6 =>
  ldI .u32 (a6.add 1) w1 fun n7 =>
  br ((n7 : Int) == 4294967295) (
  nn x0 fun a8 =>
  ldS (a8.add 2) w1 fun p9 l9 c9 =>
  idx p9 l9 x1 3 fun a10 =>
  st (a10.add 2) (.int .i64 2) w1 fun w2 =>
  R (.tuple #[]) w2) (
  nn x0 fun a11 =>
  ldS (a11.add 2) w1 fun p12 l12 c12 =>
  idx p12 l12 x1 3 fun a13 =>
  st (a13.add 2) (.int .i64 0) w1 fun w3 =>
  nn x0 fun a14 =>
  ldS (a14.add 2) w3 fun p15 l15 c15 =>
  idx p15 l15 x1 3 fun a16 =>
  ldI .u32 (a16.add 1) w3 fun n17 =>
  arith .u32 (n17 + 1) fun n18 =>
  idx p15 l15 x1 3 fun a19 =>
  st (a19.add 1) (.int .u32 n18) w3 fun w4 =>
  nn x0 fun a20 =>
  ldS (a20.add 3) w4 fun p21 l21 c21 =>
  new #[.int .i64 x1] 3 w4 fun k22 w5 =>
  runsS Try.prog (Builtin.append_ #[89, 89] 89 #[.slice p21 l21 c21, .slice (some (⟨k22, 0, none⟩ : Addr)) 1 1]) w5 fun p23 l23 c23 w6 =>
  nn x0 fun a24 =>
  st (a24.add 3) (.slice p23 l23 c23) w6 fun w7 =>
  R (.tuple #[]) w7)
@[irreducible] def tenonref02_Arena_Drop_ann : Ann := .none
theorem tenonref02_Arena_Drop_call {x0 : Option Addr} {x1 : Int} {R : Value → World → Prop} {w : World} (h : tenonref02_Arena_Drop x0 x1 R w) : call Try.prog 41 #[.pointer x0, .int .i64 x1] w R :=
  call_of_fnW plain mixed Try.func41 tenonref02_Arena_Drop_ann (Eq.mp (by kernel_rfl : tenonref02_Arena_Drop x0 x1 R w = fnW Try.prog Try.f41 tenonref02_Arena_Drop_ann #[.pointer x0, .int .i64 x1] R w) h)

def tenonref02_Arena_At (x0 : Option Addr) (x1 : Int) (R : Value → World → Prop) (w : World) : Prop :=
  ∃ I1 : Int → World → Nat → Prop, (∃ m2, I1 0 w m2) ∧
  ∀ (u3 : Nat → Value) (n4 : Int) (w1 : World) (m5 : Nat), I1 n4 w1 m5 →
  nn x0 fun a6 =>
  ldS (a6.add 2) w1 fun p7 l7 c7 =>
  br (decide ((n4 : Int) < (l7 : Int))) (
  nn x0 fun a8 =>
  ldS (a8.add 2) w1 fun p9 l9 c9 =>
  idx p9 l9 n4 3 fun a10 =>
  ldI .i64 (a10.add 2) w1 fun n11 =>
  br ((n11 : Int) == 1) (
  nn x0 fun a12 =>
  ldS (a12.add 2) w1 fun p13 l13 c13 =>
  idx p13 l13 n4 3 fun a14 =>
  ldI .u32 (a14.add 1) w1 fun n15 =>
  call Try.prog 34 #[.int .i64 n4, .int .u32 n15] w1 fun v16 w2 =>
  asI .u64 v16 fun n17 =>
  br ((n17 : Int) == x1) (
  R (.int .i64 n4) w2) (
  arith .i64 (n4 + 1) fun n18 =>
  ∃ m19, m19 < m5 ∧ I1 n18 w2 m19)) (
  arith .i64 (n4 + 1) fun n20 =>
  ∃ m21, m21 < m5 ∧ I1 n20 w1 m21)) (
  R (.int .i64 (-1)) w1)
@[irreducible] def tenonref02_Arena_At_ann : Ann := .seq .none (.seq (.seq .none (.one (.loop [(5, .int .i64)] .none))) .none)
theorem tenonref02_Arena_At_call {x0 : Option Addr} {x1 : Int} {R : Value → World → Prop} {w : World} (h : tenonref02_Arena_At x0 x1 R w) : call Try.prog 42 #[.pointer x0, .int .u64 x1] w R :=
  call_of_fnW plain mixed Try.func42 tenonref02_Arena_At_ann (Eq.mp (by kernel_rfl : tenonref02_Arena_At x0 x1 R w = fnW Try.prog Try.f42 tenonref02_Arena_At_ann #[.pointer x0, .int .u64 x1] R w) h)

def git_Table_All_1 (x0 : Fn) (y0 z0 : Array Value) (x1 : Addr) (R : Value → World → Prop) (w : World) : Prop :=
  new #[.func x0 y0 z0] 110 w fun k1 w1 =>
  ldP x1 w1 fun p2 =>
  br p2.isNone (
  R (.tuple #[]) w1) (
  ldP x1 w1 fun p3 =>
  nn p3 fun a4 =>
  ldP (a4.add 0) w1 fun p5 =>
  call Try.prog 26 #[.pointer p5] w1 fun v6 w2 =>
  asF v6 fun f7 q7 t7 =>
  rangeW Try.prog (.func f7 q7 t7) 2 (fun xs8 N9 J10 T11 w3 => ∃ (n12 : Int) (g13 : Array Value), xs8 = #[.int .u64 n12, .agg g13] ∧
  new #[.int .i64 0, .int .u32 0, .int .u32 0, .int .u64 0, .int .u64 0, .int .u8 0, .int .u8 0, .int .u8 0, .int .u8 0, .int .u8 0, .int .u8 0, .int .u8 0, .int .u8 0, .int .u8 0, .int .u8 0, .int .u8 0, .int .u8 0, .int .u8 0, .int .u8 0, .int .u8 0, .int .u8 0, .int .u8 0, .int .u8 0, .int .u8 0, .int .u8 0, .int .u8 0, .int .u8 0, .int .u8 0, .int .u8 0, .int .u8 0, .int .u8 0, .int .u8 0, .int .u8 0, .int .u8 0, .int .u8 0, .int .u8 0, .int .u8 0] 72 w3 fun k14 w4 =>
  stA Try.prog (⟨k14, 0, none⟩ : Addr) 37 g13 w4 fun w5 =>
  T11 w5 fun w6 =>
  ldF (⟨k1, 0, none⟩ : Addr) w6 fun f15 q15 t15 =>
  ldA ((⟨k14, 0, none⟩ : Addr).add 1) 36 w6 fun g16 =>
  callV Try.prog f15 q15 t15 #[.int .u64 n12, .agg g16] w6 fun v17 w7 =>
  asB v17 fun b18 =>
  br (!b18) (
  J10 .ret w7) (
  N9 w7)) (fun D19 w8 =>
  shutD D19 w8 fun w9 =>
  R (.tuple #[]) w9) (fun D20 c21 w10 => jmp c21 (
  shutD D20 w10 fun w11 =>
  R (.tuple #[]) w11) []) w2)
@[irreducible] def git_Table_All_1_ann : Ann := .seq .none (.seq .none (.seq .none (.one (.range [.int .u64, .agg] .none .none))))
theorem git_Table_All_1_call {x0 : Fn} {y0 z0 : Array Value} {x1 : Addr} {R : Value → World → Prop} {w : World} (h : git_Table_All_1 x0 y0 z0 x1 R w) : call Try.prog 43 #[.func x0 y0 z0, .pointer (some x1)] w R :=
  call_of_fnW plain mixed Try.func43 git_Table_All_1_ann (Eq.mp (by kernel_rfl : git_Table_All_1 x0 y0 z0 x1 R w = fnW Try.prog Try.f43 git_Table_All_1_ann #[.func x0 y0 z0, .pointer (some x1)] R w) h)

def arena_Split (x0 : Int) (R : Value → World → Prop) (w : World) : Prop :=
  arith .u32 x0 fun n1 =>
  arith .i64 n1 fun n2 =>
  arith .i64 (n2 - 1) fun n3 =>
  shr .u64 x0 32 fun n4 =>
  arith .u32 n4 fun n5 =>
  R (.tuple #[.int .i64 n3, .int .u32 n5]) w
@[irreducible] def arena_Split_ann : Ann := .none
theorem arena_Split_call {x0 : Int} {R : Value → World → Prop} {w : World} (h : arena_Split x0 R w) : call Try.prog 44 #[.int .u64 x0] w R :=
  call_of_fnW plain mixed Try.func44 arena_Split_ann (Eq.mp (by kernel_rfl : arena_Split x0 R w = fnW Try.prog Try.f44 arena_Split_ann #[.int .u64 x0] R w) h)

end Go.Proofs.Ytkgbfnlnpfedkaa
