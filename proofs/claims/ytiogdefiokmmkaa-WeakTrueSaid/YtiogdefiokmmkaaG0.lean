/- The shallow forms of the functions of the translation, printed by a program of this repository, each proved sound. No conditions. -/
import Derived.Test.YtiogdefiokmmkaaChecked
import Derived.Test.YtiogdefiokmmkaaSp5
import Derived.Eval
set_option linter.unusedVariables false
namespace Go.Proofs.Ytiogdefiokmmkaa
open Go.Sp
theorem plain : Plain Try.prog := by
  have h : (Try.prog.funcs.toList.all fun fn => !(fn.name == "runtime.NumGoroutine")) = true := by kernel_rfl
  intro f fn hf
  have := List.all_eq_true.1 h fn (by simpa using Array.mem_of_getElem? hf)
  simpa using this
theorem mixed : Try.prog.follows .mixedOrders = true := Checked.mixed Try.checked
abbrev T_api_Errno : Nat := 24
abbrev T_tenonlaw12_Pair : Nat := 33
abbrev T_tenonlaw12_Act : Nat := 37
abbrev T_tenonref12_Table : Nat := 50
abbrev T_tenonref12_Block : Nat := 56
abbrev T_weak_Table : Nat := 68
abbrev T_weak_block : Nat := 75
abbrev T_tenonref02_Arena : Nat := 81
abbrev T_tenonref02_Spot : Nat := 83
abbrev T_iter_Seq2_uint64_uint64_ : Nat := 86
abbrev T_arena_Arena_weak_block_ : Nat := 90
abbrev T_arena_spot_weak_block_ : Nat := 94
abbrev T_iter_Seq2_uint64_weak_block_ : Nat := 99
abbrev T_int64 : Nat := 2
abbrev T_int : Nat := 3
abbrev T_bool : Nat := 4
abbrev T_uint8 : Nat := 5
abbrev T_string : Nat := 9
abbrev T_uintptr : Nat := 12
abbrev T_int32 : Nat := 21
abbrev T_sl_tenonlaw12_Act : Nat := 22
abbrev T_sl_uint64 : Nat := 31
abbrev T_uint64 : Nat := 35
abbrev T_uint32 : Nat := 43
abbrev T_sl_tenonref12_Block : Nat := 48
abbrev T_sl_bool : Nat := 59
abbrev T_map_uint64_uint64 : Nat := 66
abbrev T_sl_tenonref02_Spot : Nat := 78
abbrev T_sl_int : Nat := 79
abbrev T_sl_arena_spot_ptr_weak_block : Nat := 88
abbrev T_uint : Nat := 101
abbrev T_ptr_uint8 : Nat := 115
abbrev fn_tenonlaw12_WeakPlays : Nat := 3
abbrev fn_tenonlaw12_WeakTrue : Nat := 4
abbrev fn_tenonlaw12_WeakTells : Nat := 5
abbrev fn_tenonlaw12_WeakEnds : Nat := 6
abbrev fn_tenonlaw12_WeakNil : Nat := 7
abbrev fn_weak_New : Nat := 8
abbrev fn_tenonref12_New : Nat := 9
abbrev fn_tenonlaw12_awake : Nat := 10
abbrev fn_tenonlaw12_Pair_do : Nat := 11
abbrev fn_weak_Table_Of : Nat := 12
abbrev fn_tenonref01_Pick : Nat := 13
abbrev fn_weak_Table_Die : Nat := 14
abbrev fn_weak_Table_Down : Nat := 15
abbrev fn_weak_Table_Lock : Nat := 16
abbrev fn_tenonref02_Arena_All : Nat := 17
abbrev fn_tenonlaw12_told : Nat := 18
abbrev fn_tenonref01_SameLongs : Nat := 19
abbrev fn_tenonref12_Table_At : Nat := 20
abbrev fn_weak_Table_Up : Nat := 21
abbrev fn_arena_New : Nat := 22
abbrev fn_tenonref02_New : Nat := 23
abbrev fn_tenonref12_Table_Of : Nat := 24
abbrev fn_tenonref12_Table_Down : Nat := 25
abbrev fn_tenonref12_Table_Living : Nat := 26
abbrev fn_arena_Arena_Put : Nat := 27
abbrev fn_weak_Table_find : Nat := 28
abbrev fn_arena_Arena_Drop : Nat := 29
abbrev fn_tenonref02_Handle : Nat := 30
abbrev fn_weak_Table_Blocks : Nat := 31
abbrev fn_tenonref02_Arena_Put : Nat := 32
abbrev fn_tenonref02_Arena_Drop : Nat := 33
abbrev fn_tenonref02_Arena_At : Nat := 34
abbrev fn_arena_handle : Nat := 35
abbrev fn_arena_Arena_Get : Nat := 36
abbrev fn_arena_Arena_find : Nat := 37
abbrev fn_weak_Table_Blocks_1 : Nat := 38
abbrev fn_arena_Arena_All : Nat := 39
abbrev fn_arena_Split : Nat := 40
abbrev fn_arena_Arena_All_1 : Nat := 41

def tenonlaw12_WeakPlays (x0 : Int) (x1 : Option Addr) (y1 z1 : Nat) (R : Value → World → Prop) (w : World) : Prop :=
  call Try.prog 8 #[.int .i64 x0] w fun v1 w1 =>
  ∃ (p2 : Option Addr) (n3 : Int),
  v1 = .tuple #[.pointer p2, .int .i64 n3] ∧
  call Try.prog 9 #[.int .i64 x0] w1 fun v4 w2 =>
  asP v4 fun p5 =>
  br p5.isNone (
  br ((n3 : Int) == 1) (
  br p2.isNone (
  call Try.prog 10 #[] w2 fun v6 w3 =>
  asB v6 fun b7 =>
  R (.bool b7) w3) (
  R (.bool false) w2)) (
  R (.bool false) w2)) (
  call Try.prog 9 #[.int .i64 x0] w2 fun v8 w4 =>
  asP v8 fun p9 =>
  new #[.pointer p2, .pointer p9, .slice none 0 0] 33 w4 fun k10 w5 =>
  ∃ I11 : Int → World → Nat → Prop, (∃ m12, I11 0 w5 m12) ∧
  ∀ (u13 : Nat → Value) (n14 : Int) (w6 : World) (m15 : Nat), I11 n14 w6 m15 →
  br (decide ((n14 : Int) < (y1 : Int))) (
  br (decide ((n14 : Int) < 200)) (
  idx x1 y1 n14 4 fun a16 =>
  ldA a16 4 w6 fun g17 =>
  call Try.prog 11 #[.pointer (some (⟨k10, 0, none⟩ : Addr)), .agg g17] w6 fun v18 w7 =>
  asB v18 fun b19 =>
  br (!b19) (
  R (.bool false) w7) (
  arith .i64 (n14 + 1) fun n20 =>
  ∃ m21, m21 < m15 ∧ I11 n20 w7 m21)) (
  br ((n3 : Int) == 0) (
  call Try.prog 10 #[] w6 fun v22 w8 =>
  asB v22 fun b23 =>
  R (.bool b23) w8) (
  R (.bool false) w6))) (
  br ((n3 : Int) == 0) (
  call Try.prog 10 #[] w6 fun v24 w9 =>
  asB v24 fun b25 =>
  R (.bool b25) w9) (
  R (.bool false) w6)))
@[irreducible] def tenonlaw12_WeakPlays_ann : Ann := .seq .none (.seq .none (.seq .none (.seq .none (.seq (.seq .none (.one (.loop [(8, .int .i64)] .none))) .none))))
theorem tenonlaw12_WeakPlays_call {x0 : Int} {x1 : Option Addr} {y1 z1 : Nat} {R : Value → World → Prop} {w : World} (h : tenonlaw12_WeakPlays x0 x1 y1 z1 R w) : call Try.prog 3 #[.int .i64 x0, .slice x1 y1 z1] w R :=
  call_of_fnW plain mixed Try.func3 tenonlaw12_WeakPlays_ann (Eq.mp (by kernel_rfl : tenonlaw12_WeakPlays x0 x1 y1 z1 R w = fnW Try.prog Try.f3 tenonlaw12_WeakPlays_ann #[.int .i64 x0, .slice x1 y1 z1] R w) h)

def tenonlaw12_WeakTrue (x0 : Option Addr) (y0 z0 : Nat) (x1 : Int) (x2 : Int) (R : Value → World → Prop) (w : World) : Prop :=
  call Try.prog 8 #[.int .i64 300] w fun v1 w1 =>
  ∃ (p2 : Option Addr) (n3 : Int),
  v1 = .tuple #[.pointer p2, .int .i64 n3] ∧
  call Try.prog 12 #[.pointer p2, .int .u64 x1] w1 fun v4 w2 =>
  ∃ (n5 : Int) (n6 : Int),
  v4 = .tuple #[.int .u64 n5, .int .i64 n6] ∧
  br ((n3 : Int) != 0) (
  R (.bool false) w2) (
  br ((n6 : Int) != 0) (
  R (.bool false) w2) (
  ∃ I7 : Bool → Int → World → Nat → Prop, (∃ m8, I7 false 0 w2 m8) ∧
  ∀ (u9 : Nat → Value) (b10 : Bool) (n11 : Int) (w3 : World) (m12 : Nat), I7 b10 n11 w3 m12 →
  br (decide ((n11 : Int) < (y0 : Int))) (
  br (decide ((n11 : Int) < 100)) (
  ∃ J13 : Bool → World → Prop, (
  call Try.prog 13 #[.int .i64 x2, .int .i64 100] w3 fun v14 w4 =>
  asI .i64 v14 fun n15 =>
  br ((n11 : Int) == n15) (
  call Try.prog 14 #[.pointer p2, .int .u64 x1] w4 fun v16 w5 =>
  asB v16 fun b17 =>
  br b17 (
  J13 true w5) (
  J13 b10 w5)) (
  J13 b10 w4)) ∧
  ∀ (u18 : Nat → Value) (b19 : Bool) (w6 : World), J13 b19 w6 →
  idx x0 y0 n11 4 fun a20 =>
  ldA a20 4 w6 fun g21 =>
  new #[.int .i64 0, .int .i64 0, .int .u64 0, .int .u64 0] 37 w6 fun k22 w7 =>
  stA Try.prog (⟨k22, 0, none⟩ : Addr) 4 g21 w7 fun w8 =>
  ∃ J23 : Bool → World → Prop, (
  ldI .i64 ((⟨k22, 0, none⟩ : Addr).add 0) w8 fun n24 =>
  call Try.prog 13 #[.int .i64 n24, .int .i64 3] w8 fun v25 w9 =>
  asI .i64 v25 fun n26 =>
  br ((n26 : Int) == 0) (
  ldI .u64 ((⟨k22, 0, none⟩ : Addr).add 2) w9 fun n27 =>
  call Try.prog 12 #[.pointer p2, .int .u64 n27] w9 fun v28 w10 =>
  ∃ (n29 : Int) (n30 : Int),
  v28 = .tuple #[.int .u64 n29, .int .i64 n30] ∧
  J23 b19 w10) (
  br ((n26 : Int) == 1) (
  ldI .u64 ((⟨k22, 0, none⟩ : Addr).add 2) w9 fun n31 =>
  call Try.prog 14 #[.pointer p2, .int .u64 n31] w9 fun v32 w11 =>
  asB v32 fun b33 =>
  br b19 (
  J23 true w11) (
  ldI .u64 ((⟨k22, 0, none⟩ : Addr).add 2) w11 fun n34 =>
  J23 ((n34 : Int) == x1) w11)) (
  ldI .u64 ((⟨k22, 0, none⟩ : Addr).add 3) w9 fun n35 =>
  br ((n35 : Int) != n5) (
  ldI .u64 ((⟨k22, 0, none⟩ : Addr).add 3) w9 fun n36 =>
  call Try.prog 15 #[.pointer p2, .int .u64 n36] w9 fun v37 w12 =>
  ∃ (n38 : Int) (n39 : Int),
  v37 = .tuple #[.int .u32 n38, .int .i64 n39] ∧
  J23 b19 w12) (
  J23 b19 w9)))) ∧
  ∀ (u40 : Nat → Value) (b41 : Bool) (w13 : World), J23 b41 w13 →
  call Try.prog 16 #[.pointer p2, .int .u64 n5] w13 fun v42 w14 =>
  ∃ (n43 : Int) (n44 : Int),
  v42 = .tuple #[.int .u64 n43, .int .i64 n44] ∧
  br b41 (
  br ((n44 : Int) != 10) (
  R (.bool false) w14) (
  br ((n43 : Int) != 0) (
  R (.bool false) w14) (
  br (!b41) (
  br ((n44 : Int) != 0) (
  R (.bool false) w14) (
  br ((n43 : Int) != x1) (
  R (.bool false) w14) (
  arith .i64 (n11 + 1) fun n45 =>
  ∃ m46, m46 < m12 ∧ I7 b41 n45 w14 m46))) (
  arith .i64 (n11 + 1) fun n47 =>
  ∃ m48, m48 < m12 ∧ I7 b41 n47 w14 m48)))) (
  br (!b41) (
  br ((n44 : Int) != 0) (
  R (.bool false) w14) (
  br ((n43 : Int) != x1) (
  R (.bool false) w14) (
  arith .i64 (n11 + 1) fun n49 =>
  ∃ m50, m50 < m12 ∧ I7 b41 n49 w14 m50))) (
  arith .i64 (n11 + 1) fun n51 =>
  ∃ m52, m52 < m12 ∧ I7 b41 n51 w14 m52))) (
  call Try.prog 10 #[] w3 fun v53 w15 =>
  asB v53 fun b54 =>
  R (.bool b54) w15)) (
  call Try.prog 10 #[] w3 fun v55 w16 =>
  asB v55 fun b56 =>
  R (.bool b56) w16)))
@[irreducible] def tenonlaw12_WeakTrue_ann : Ann := .seq .none (.seq .none (.seq .none (.seq .none (.seq .none (.seq (.seq .none (.one (.loop [(11, .bool), (12, .int .i64)] (.seq .none (.seq (.one (.meet [(11, .bool)] .none (.seq .none (.meet [(11, .bool)] .none .none)))) .none))))) .none)))))
theorem tenonlaw12_WeakTrue_call {x0 : Option Addr} {y0 z0 : Nat} {x1 : Int} {x2 : Int} {R : Value → World → Prop} {w : World} (h : tenonlaw12_WeakTrue x0 y0 z0 x1 x2 R w) : call Try.prog 4 #[.slice x0 y0 z0, .int .u64 x1, .int .i64 x2] w R :=
  call_of_fnW plain mixed Try.func4 tenonlaw12_WeakTrue_ann (Eq.mp (by kernel_rfl : tenonlaw12_WeakTrue x0 y0 z0 x1 x2 R w = fnW Try.prog Try.f4 tenonlaw12_WeakTrue_ann #[.slice x0 y0 z0, .int .u64 x1, .int .i64 x2] R w) h)

def tenonlaw12_WeakTells (x0 : Option Addr) (y0 z0 : Nat) (x1 : Int) (R : Value → World → Prop) (w : World) : Prop :=
  call Try.prog 8 #[.int .i64 20] w fun v1 w1 =>
  ∃ (p2 : Option Addr) (n3 : Int),
  v1 = .tuple #[.pointer p2, .int .i64 n3] ∧
  call Try.prog 9 #[.int .i64 20] w1 fun v4 w2 =>
  asP v4 fun p5 =>
  new #[.pointer p2, .pointer p5, .slice none 0 0] 33 w2 fun k6 w3 =>
  ∃ J7 : World → Prop, (
  ∃ I8 : Int → World → Nat → Prop, (∃ m9, I8 0 w3 m9) ∧
  ∀ (u10 : Nat → Value) (n11 : Int) (w4 : World) (m12 : Nat), I8 n11 w4 m12 →
  br (decide ((n11 : Int) < (y0 : Int))) (
  br (decide ((n11 : Int) < 100)) (
  idx x0 y0 n11 4 fun a13 =>
  ldA a13 4 w4 fun g14 =>
  call Try.prog 11 #[.pointer (some (⟨k6, 0, none⟩ : Addr)), .agg g14] w4 fun v15 w5 =>
  asB v15 fun b16 =>
  arith .i64 (n11 + 1) fun n17 =>
  ∃ m18, m18 < m12 ∧ I8 n17 w5 m18) (
  J7  w4)) (
  J7  w4)) ∧
  ∀ (u19 : Nat → Value)  (w6 : World), J7  w6 →
  ldP ((⟨k6, 0, none⟩ : Addr).add 1) w6 fun p20 =>
  nn p20 fun a21 =>
  ldP (a21.add 0) w6 fun p22 =>
  call Try.prog 17 #[.pointer p22] w6 fun v23 w7 =>
  asS v23 fun p24 l24 c24 =>
  call Try.prog 18 #[.pointer p2, .int .i64 99] w7 fun v25 w8 =>
  ∃ (p26 : Option Addr) (l26 c26 : Nat) (p27 : Option Addr) (l27 c27 : Nat),
  v25 = .tuple #[.slice p26 l26 c26, .slice p27 l27 c27] ∧
  arith .i64 ((l24 : Int) + 1) fun n28 =>
  call Try.prog 13 #[.int .i64 x1, .int .i64 n28] w8 fun v29 w9 =>
  asI .i64 v29 fun n30 =>
  call Try.prog 18 #[.pointer p2, .int .i64 n30] w9 fun v31 w10 =>
  ∃ (p32 : Option Addr) (l32 c32 : Nat) (p33 : Option Addr) (l33 c33 : Nat),
  v31 = .tuple #[.slice p32 l32 c32, .slice p33 l33 c33] ∧
  call Try.prog 19 #[.slice p26 l26 c26, .slice p24 l24 c24] w10 fun v34 w11 =>
  asB v34 fun b35 =>
  br (!b35) (
  R (.bool false) w11) (
  slc p24 c24 1 0 n30 fun p36 l36 c36 =>
  call Try.prog 19 #[.slice p32 l32 c32, .slice p36 l36 c36] w11 fun v37 w12 =>
  asB v37 fun b38 =>
  br (!b38) (
  R (.bool false) w12) (
  ∃ I39 : Int → World → Nat → Prop, (∃ m40, I39 0 w12 m40) ∧
  ∀ (u41 : Nat → Value) (n42 : Int) (w13 : World) (m43 : Nat), I39 n42 w13 m43 →
  br (decide ((n42 : Int) < (l26 : Int))) (
  idx p27 l27 n42 1 fun a44 =>
  ldI .u64 a44 w13.drew fun n45 =>
  ldP ((⟨k6, 0, none⟩ : Addr).add 1) w13.drew fun p46 =>
  nn p46 fun a47 =>
  ldS (a47.add 1) w13.drew fun p48 l48 c48 =>
  ldP ((⟨k6, 0, none⟩ : Addr).add 1) w13.drew fun p49 =>
  idx p26 l26 n42 1 fun a50 =>
  ldI .u64 a50 w13.drew fun n51 =>
  call Try.prog 20 #[.pointer p49, .int .u64 n51] w13.drew fun v52 w14 =>
  asI .i64 v52 fun n53 =>
  w14.cell? (a47.add 1) = some (.slice p48 l48 c48) ∧
  w14.cell? ((⟨k6, 0, none⟩ : Addr).add 1) = some (.pointer p46) ∧
  w14.cell? a44 = some (.int .u64 n45) ∧
  idx p48 l48 n53 4 fun a54 =>
  ldI .u64 (a54.add 1) w14 fun n55 =>
  br ((n45 : Int) != n55) (
  R (.bool false) w14) (
  arith .i64 (n42 + 1) fun n56 =>
  ∃ m57, m57 < m43 ∧ I39 n56 w14 m57)) (
  call Try.prog 10 #[] w13 fun v58 w15 =>
  asB v58 fun b59 =>
  R (.bool b59) w15)))
@[irreducible] def tenonlaw12_WeakTells_ann : Ann := .seq .none (.seq .none (.seq .none (.meet [] (.seq .none (.one (.loop [(8, .int .i64)] .none))) (.seq .none (.seq .none (.seq .none (.seq .none (.seq .none (.seq (.seq .none (.one (.loop [(15, .int .i64)] (.seq .none (.seq (.one (.seq (.draw [[], [], [0, 1], [0, 1, 2], [], [4], [4, 5], [4, 5, 6], [4, 5, 6, 7], [4, 5, 6, 7, 8], [4, 5, 6, 7, 8, 9], [], [11], [11, 12], [11, 12, 13], [], [], [15, 16], [15, 16, 17], [11, 12, 13, 14, 15, 16, 17, 18], [4, 5, 6, 7, 8, 9, 10, 11, 12, 13, 14, 15, 16, 17, 18, 19], [4, 5, 6, 7, 8, 9, 10, 11, 12, 13, 14, 15, 16, 17, 18, 19, 20], [4, 5, 6, 7, 8, 9, 10, 11, 12, 13, 14, 15, 16, 17, 18, 19, 20, 21], [0, 1, 2, 3, 4, 5, 6, 7, 8, 9, 10, 11, 12, 13, 14, 15, 16, 17, 18, 19, 20, 21, 22]] (ol [0, 1, 2, 3, 4, 5, 6, 7, 8, 9, 10, 11, 12, 13, 14, 15, 16, 17, 18, 19, 20, 21, 22, 23] .nil)) .none)) .none))))) .none)))))))))
theorem tenonlaw12_WeakTells_call {x0 : Option Addr} {y0 z0 : Nat} {x1 : Int} {R : Value → World → Prop} {w : World} (h : tenonlaw12_WeakTells x0 y0 z0 x1 R w) : call Try.prog 5 #[.slice x0 y0 z0, .int .i64 x1] w R :=
  call_of_fnW plain mixed Try.func5 tenonlaw12_WeakTells_ann (Eq.mp (by kernel_rfl : tenonlaw12_WeakTells x0 y0 z0 x1 R w = fnW Try.prog Try.f5 tenonlaw12_WeakTells_ann #[.slice x0 y0 z0, .int .i64 x1] R w) h)

def tenonlaw12_WeakEnds (x0 : Option Addr) (y0 z0 : Nat) (x1 : Option Addr) (y1 z1 : Nat) (R : Value → World → Prop) (w : World) : Prop :=
  call Try.prog 8 #[.int .i64 100] w fun v1 w1 =>
  ∃ (p2 : Option Addr) (n3 : Int),
  v1 = .tuple #[.pointer p2, .int .i64 n3] ∧
  br ((n3 : Int) != 0) (
  R (.bool false) w1) (
  ∃ J4 : Option Addr → Nat → Nat → World → Prop, (
  ∃ I5 : Option Addr → Nat → Nat → Int → World → Nat → Prop, (∃ m6, I5 none 0 0 0 w1 m6) ∧
  ∀ (u7 : Nat → Value) (p8 : Option Addr) (l8 c8 : Nat) (n9 : Int) (w2 : World) (m10 : Nat), I5 p8 l8 c8 n9 w2 m10 →
  br (decide ((n9 : Int) < (y0 : Int))) (
  br (decide ((n9 : Int) < 60)) (
  idx x0 y0 n9 1 fun a11 =>
  ldI .u64 a11 w2 fun n12 =>
  call Try.prog 12 #[.pointer p2, .int .u64 n12] w2 fun v13 w3 =>
  ∃ (n14 : Int) (n15 : Int),
  v13 = .tuple #[.int .u64 n14, .int .i64 n15] ∧
  br ((n15 : Int) != 0) (
  R (.bool false) w3) (
  new #[.int .u64 n14] 35 w3 fun k16 w4 =>
  runsS Try.prog (Builtin.append_ #[31, 31] 31 #[.slice p8 l8 c8, .slice (some (⟨k16, 0, none⟩ : Addr)) 1 1]) w4 fun p17 l17 c17 w5 =>
  br (decide ((n9 : Int) < (y1 : Int))) (
  idx x1 y1 n9 1 fun a18 =>
  ldB a18 w5 fun b19 =>
  br b19 (
  idx x0 y0 n9 1 fun a20 =>
  ldI .u64 a20 w5 fun n21 =>
  call Try.prog 14 #[.pointer p2, .int .u64 n21] w5 fun v22 w6 =>
  asB v22 fun b23 =>
  arith .i64 (n9 + 1) fun n24 =>
  ∃ m25, m25 < m10 ∧ I5 p17 l17 c17 n24 w6 m25) (
  arith .i64 (n9 + 1) fun n26 =>
  ∃ m27, m27 < m10 ∧ I5 p17 l17 c17 n26 w5 m27)) (
  arith .i64 (n9 + 1) fun n28 =>
  ∃ m29, m29 < m10 ∧ I5 p17 l17 c17 n28 w5 m29))) (
  J4 p8 l8 c8 w2)) (
  J4 p8 l8 c8 w2)) ∧
  ∀ (u30 : Nat → Value) (p31 : Option Addr) (l31 c31 : Nat) (w7 : World), J4 p31 l31 c31 w7 →
  ∃ I32 : Int → World → Nat → Prop, (∃ m33, I32 0 w7 m33) ∧
  ∀ (u34 : Nat → Value) (n35 : Int) (w8 : World) (m36 : Nat), I32 n35 w8 m36 →
  br (decide ((n35 : Int) < (l31 : Int))) (
  idx p31 l31 n35 1 fun a37 =>
  ldI .u64 a37 w8 fun n38 =>
  call Try.prog 15 #[.pointer p2, .int .u64 n38] w8 fun v39 w9 =>
  ∃ (n40 : Int) (n41 : Int),
  v39 = .tuple #[.int .u32 n40, .int .i64 n41] ∧
  br ((n41 : Int) != 0) (
  R (.bool false) w9) (
  arith .i64 (n35 + 1) fun n42 =>
  ∃ m43, m43 < m36 ∧ I32 n42 w9 m43)) (
  call Try.prog 18 #[.pointer p2, .int .i64 9] w8 fun v44 w10 =>
  ∃ (p45 : Option Addr) (l45 c45 : Nat) (p46 : Option Addr) (l46 c46 : Nat),
  v44 = .tuple #[.slice p45 l45 c45, .slice p46 l46 c46] ∧
  br ((l45 : Int) == 0) (
  call Try.prog 10 #[] w10 fun v47 w11 =>
  asB v47 fun b48 =>
  R (.bool b48) w11) (
  R (.bool false) w10)))
@[irreducible] def tenonlaw12_WeakEnds_ann : Ann := .seq .none (.seq .none (.seq .none (.seq .none (.meet [(7, .slice)] (.seq .none (.one (.loop [(7, .slice), (8, .int .i64)] .none))) (.seq (.seq .none (.one (.loop [(11, .int .i64)] .none))) .none)))))
theorem tenonlaw12_WeakEnds_call {x0 : Option Addr} {y0 z0 : Nat} {x1 : Option Addr} {y1 z1 : Nat} {R : Value → World → Prop} {w : World} (h : tenonlaw12_WeakEnds x0 y0 z0 x1 y1 z1 R w) : call Try.prog 6 #[.slice x0 y0 z0, .slice x1 y1 z1] w R :=
  call_of_fnW plain mixed Try.func6 tenonlaw12_WeakEnds_ann (Eq.mp (by kernel_rfl : tenonlaw12_WeakEnds x0 y0 z0 x1 y1 z1 R w = fnW Try.prog Try.f6 tenonlaw12_WeakEnds_ann #[.slice x0 y0 z0, .slice x1 y1 z1] R w) h)

def tenonlaw12_WeakNil (x0 : Int) (x1 : Int) (R : Value → World → Prop) (w : World) : Prop :=
  call Try.prog 12 #[.pointer none, .int .u64 x1] w fun v1 w1 =>
  ∃ (n2 : Int) (n3 : Int),
  v1 = .tuple #[.int .u64 n2, .int .i64 n3] ∧
  call Try.prog 21 #[.pointer none, .int .u64 x0] w1 fun v4 w2 =>
  ∃ (n5 : Int) (n6 : Int),
  v4 = .tuple #[.int .u32 n5, .int .i64 n6] ∧
  call Try.prog 15 #[.pointer none, .int .u64 x0] w2 fun v7 w3 =>
  ∃ (n8 : Int) (n9 : Int),
  v7 = .tuple #[.int .u32 n8, .int .i64 n9] ∧
  call Try.prog 16 #[.pointer none, .int .u64 x0] w3 fun v10 w4 =>
  ∃ (n11 : Int) (n12 : Int),
  v10 = .tuple #[.int .u64 n11, .int .i64 n12] ∧
  call Try.prog 18 #[.pointer none, .int .i64 9] w4 fun v13 w5 =>
  ∃ (p14 : Option Addr) (l14 c14 : Nat) (p15 : Option Addr) (l15 c15 : Nat),
  v13 = .tuple #[.slice p14 l14 c14, .slice p15 l15 c15] ∧
  br ((n2 : Int) == 0) (
  br ((n3 : Int) == 3) (
  br ((n6 : Int) == 2) (
  br ((n9 : Int) == 2) (
  br ((n12 : Int) == 2) (
  call Try.prog 14 #[.pointer none, .int .u64 x1] w5 fun v16 w6 =>
  asB v16 fun b17 =>
  br (!b17) (
  br ((l14 : Int) == 0) (
  call Try.prog 10 #[] w6 fun v18 w7 =>
  asB v18 fun b19 =>
  R (.bool b19) w7) (
  R (.bool false) w6)) (
  R (.bool false) w6)) (
  R (.bool false) w5)) (
  R (.bool false) w5)) (
  R (.bool false) w5)) (
  R (.bool false) w5)) (
  R (.bool false) w5)
@[irreducible] def tenonlaw12_WeakNil_ann : Ann := .none
theorem tenonlaw12_WeakNil_call {x0 : Int} {x1 : Int} {R : Value → World → Prop} {w : World} (h : tenonlaw12_WeakNil x0 x1 R w) : call Try.prog 7 #[.int .u64 x0, .int .u64 x1] w R :=
  call_of_fnW plain mixed Try.func7 tenonlaw12_WeakNil_ann (Eq.mp (by kernel_rfl : tenonlaw12_WeakNil x0 x1 R w = fnW Try.prog Try.f7 tenonlaw12_WeakNil_ann #[.int .u64 x0, .int .u64 x1] R w) h)

def weak_New (x0 : Int) (R : Value → World → Prop) (w : World) : Prop :=
  call Try.prog 22 #[.int .i64 x0, .int .u32 1] w fun v1 w1 =>
  ∃ (p2 : Option Addr) (n3 : Int),
  v1 = .tuple #[.pointer p2, .int .i64 n3] ∧
  br ((n3 : Int) != 0) (
  R (.tuple #[.pointer none, .int .i64 n3]) w1) (
  newM w1 fun k4 w2 =>
  new #[.pointer p2, .map (some k4)] 68 w2 fun k5 w3 =>
  R (.tuple #[.pointer (some (⟨k5, 0, none⟩ : Addr)), .int .i64 0]) w3)
@[irreducible] def weak_New_ann : Ann := .none
theorem weak_New_call {x0 : Int} {R : Value → World → Prop} {w : World} (h : weak_New x0 R w) : call Try.prog 8 #[.int .i64 x0] w R :=
  call_of_fnW plain mixed Try.func8 weak_New_ann (Eq.mp (by kernel_rfl : weak_New x0 R w = fnW Try.prog Try.f8 weak_New_ann #[.int .i64 x0] R w) h)

def tenonref12_New (x0 : Int) (R : Value → World → Prop) (w : World) : Prop :=
  call Try.prog 23 #[.int .i64 x0, .int .u32 1] w fun v1 w1 =>
  asP v1 fun p2 =>
  br p2.isNone (
  R (.pointer none) w1) (
  new #[.pointer p2, .slice none 0 0] 50 w1 fun k3 w2 =>
  R (.pointer (some (⟨k3, 0, none⟩ : Addr))) w2)
@[irreducible] def tenonref12_New_ann : Ann := .none
theorem tenonref12_New_call {x0 : Int} {R : Value → World → Prop} {w : World} (h : tenonref12_New x0 R w) : call Try.prog 9 #[.int .i64 x0] w R :=
  call_of_fnW plain mixed Try.func9 tenonref12_New_ann (Eq.mp (by kernel_rfl : tenonref12_New x0 R w = fnW Try.prog Try.f9 tenonref12_New_ann #[.int .i64 x0] R w) h)

def tenonlaw12_awake  (R : Value → World → Prop) (w : World) : Prop :=
  call Try.prog 8 #[.int .i64 4] w fun v1 w1 =>
  ∃ (p2 : Option Addr) (n3 : Int),
  v1 = .tuple #[.pointer p2, .int .i64 n3] ∧
  call Try.prog 12 #[.pointer p2, .int .u64 5] w1 fun v4 w2 =>
  ∃ (n5 : Int) (n6 : Int),
  v4 = .tuple #[.int .u64 n5, .int .i64 n6] ∧
  call Try.prog 12 #[.pointer p2, .int .u64 5] w2 fun v7 w3 =>
  ∃ (n8 : Int) (n9 : Int),
  v7 = .tuple #[.int .u64 n8, .int .i64 n9] ∧
  br ((n3 : Int) != 0) (
  R (.bool false) w3) (
  br ((n6 : Int) != 0) (
  R (.bool false) w3) (
  br ((n9 : Int) != 0) (
  R (.bool false) w3) (
  br ((n5 : Int) != n8) (
  R (.bool false) w3) (
  call Try.prog 14 #[.pointer p2, .int .u64 5] w3 fun v10 w4 =>
  asB v10 fun b11 =>
  br (!b11) (
  R (.bool false) w4) (
  call Try.prog 16 #[.pointer p2, .int .u64 n5] w4 fun v12 w5 =>
  ∃ (n13 : Int) (n14 : Int),
  v12 = .tuple #[.int .u64 n13, .int .i64 n14] ∧
  call Try.prog 12 #[.pointer p2, .int .u64 5] w5 fun v15 w6 =>
  ∃ (n16 : Int) (n17 : Int),
  v15 = .tuple #[.int .u64 n16, .int .i64 n17] ∧
  br ((n14 : Int) == 10) (
  br ((n17 : Int) == 0) (
  R (.bool ((n16 : Int) != n5)) w6) (
  R (.bool false) w6)) (
  R (.bool false) w6))))))
@[irreducible] def tenonlaw12_awake_ann : Ann := .none
theorem tenonlaw12_awake_call  {R : Value → World → Prop} {w : World} (h : tenonlaw12_awake  R w) : call Try.prog 10 #[] w R :=
  call_of_fnW plain mixed Try.func10 tenonlaw12_awake_ann (Eq.mp (by kernel_rfl : tenonlaw12_awake  R w = fnW Try.prog Try.f10 tenonlaw12_awake_ann #[] R w) h)

def tenonlaw12_Pair_do (x0 : Option Addr) (x1 : Array Value) (R : Value → World → Prop) (w : World) : Prop :=
  new x1 37 w fun k1 w1 =>
  ldI .u64 ((⟨k1, 0, none⟩ : Addr).add 3) w1 fun n2 =>
  ∃ J3 : Int → World → Prop, (
  ∃ J4 : Bool → World → Prop, (
  br ((n2 : Int) == 0) (
  nn x0 fun a5 =>
  ldS (a5.add 2) w1 fun p6 l6 c6 =>
  J4 (decide ((l6 : Int) > 0)) w1) (
  J4 false w1)) ∧
  ∀ (u7 : Nat → Value) (b8 : Bool) (w2 : World), J4 b8 w2 →
  br b8 (
  nn x0 fun a9 =>
  ldS (a9.add 2) w2.drew fun p10 l10 c10 =>
  ldI .i64 ((⟨k1, 0, none⟩ : Addr).add 1) w2.drew fun n11 =>
  nn x0 fun a12 =>
  ldS (a12.add 2) w2.drew fun p13 l13 c13 =>
  call Try.prog 13 #[.int .i64 n11, .int .i64 ((l13 : Int))] w2.drew fun v14 w3 =>
  asI .i64 v14 fun n15 =>
  w3.cell? (a9.add 2) = some (.slice p10 l10 c10) ∧
  idx p10 l10 n15 1 fun a16 =>
  ldI .u64 a16 w3 fun n17 =>
  J3 n17 w3) (
  J3 n2 w2)) ∧
  ∀ (u18 : Nat → Value) (n19 : Int) (w4 : World), J3 n19 w4 →
  nn x0 fun a20 =>
  ldP (a20.add 1) w4 fun p21 =>
  call Try.prog 20 #[.pointer p21, .int .u64 n19] w4 fun v22 w5 =>
  asI .i64 v22 fun n23 =>
  ldI .i64 ((⟨k1, 0, none⟩ : Addr).add 0) w5 fun n24 =>
  call Try.prog 13 #[.int .i64 n24, .int .i64 7] w5 fun v25 w6 =>
  asI .i64 v25 fun n26 =>
  ∃ J27 : Bool → World → Prop, (
  br ((n26 : Int) == 0) (
  J27 ((n26 : Int) == 0) w6) (
  J27 ((n26 : Int) == 1) w6)) ∧
  ∀ (u28 : Nat → Value) (b29 : Bool) (w7 : World), J27 b29 w7 →
  br b29 (
  nn x0 fun a30 =>
  ldP (a30.add 0) w7.drew fun p31 =>
  ldI .u64 ((⟨k1, 0, none⟩ : Addr).add 2) w7.drew fun n32 =>
  call Try.prog 12 #[.pointer p31, .int .u64 n32] w7.drew fun v33 w8 =>
  ∃ (n34 : Int) (n35 : Int),
  v33 = .tuple #[.int .u64 n34, .int .i64 n35] ∧
  nn x0 fun a36 =>
  ldP (a36.add 1) w8.drew fun p37 =>
  ldI .u64 ((⟨k1, 0, none⟩ : Addr).add 2) w8.drew fun n38 =>
  call Try.prog 24 #[.pointer p37, .int .u64 n38] w8.drew fun v39 w9 =>
  asI .u64 v39 fun n40 =>
  ∃ J41 : World → Prop, (
  br ((n40 : Int) != 0) (
  nn x0 fun a42 =>
  ldS (a42.add 2) w9 fun p43 l43 c43 =>
  new #[.int .u64 n40] 35 w9 fun k44 w10 =>
  runsS Try.prog (Builtin.append_ #[31, 31] 31 #[.slice p43 l43 c43, .slice (some (⟨k44, 0, none⟩ : Addr)) 1 1]) w10 fun p45 l45 c45 w11 =>
  nn x0 fun a46 =>
  st (a46.add 2) (.slice p45 l45 c45) w11 fun w12 =>
  J41  w12) (
  J41  w9)) ∧
  ∀ (u47 : Nat → Value)  (w13 : World), J41  w13 →
  br ((n34 : Int) == n40) (
  br (((n35 : Int) == 0) == ((n40 : Int) != 0)) (
  br ((n35 : Int) == 0) (
  R (.bool true) w13) (
  R (.bool ((n35 : Int) == 3)) w13)) (
  R (.bool false) w13)) (
  R (.bool false) w13)) (
  br ((n26 : Int) == 2) (
  nn x0 fun a48 =>
  ldP (a48.add 0) w7 fun p49 =>
  call Try.prog 21 #[.pointer p49, .int .u64 n19] w7 fun v50 w14 =>
  ∃ (n51 : Int) (n52 : Int),
  v50 = .tuple #[.int .u32 n51, .int .i64 n52] ∧
  br (decide ((n23 : Int) < 0)) (
  br ((n51 : Int) == 0) (
  R (.bool ((n52 : Int) == 2)) w14) (
  R (.bool false) w14)) (
  nn x0 fun a53 =>
  ldP (a53.add 1) w14 fun p54 =>
  nn p54 fun a55 =>
  ldS (a55.add 1) w14 fun p56 l56 c56 =>
  idx p56 l56 n23 4 fun a57 =>
  ldI .u32 (a57.add 3) w14 fun n58 =>
  arith .u32 (n58 + 1) fun n59 =>
  idx p56 l56 n23 4 fun a60 =>
  st (a60.add 3) (.int .u32 n59) w14 fun w15 =>
  nn x0 fun a61 =>
  ldP (a61.add 1) w15 fun p62 =>
  nn p62 fun a63 =>
  ldS (a63.add 1) w15 fun p64 l64 c64 =>
  idx p64 l64 n23 4 fun a65 =>
  ldI .u32 (a65.add 3) w15 fun n66 =>
  br ((n51 : Int) == n66) (
  R (.bool ((n52 : Int) == 0)) w15) (
  R (.bool false) w15))) (
  ∃ J67 : Bool → World → Prop, (
  br ((n26 : Int) == 3) (
  J67 ((n26 : Int) == 3) w7) (
  J67 ((n26 : Int) == 4) w7)) ∧
  ∀ (u68 : Nat → Value) (b69 : Bool) (w16 : World), J67 b69 w16 →
  br b69 (
  nn x0 fun a70 =>
  ldP (a70.add 0) w16 fun p71 =>
  call Try.prog 15 #[.pointer p71, .int .u64 n19] w16 fun v72 w17 =>
  ∃ (n73 : Int) (n74 : Int),
  v72 = .tuple #[.int .u32 n73, .int .i64 n74] ∧
  br (decide ((n23 : Int) < 0)) (
  br ((n73 : Int) == 0) (
  R (.bool ((n74 : Int) == 2)) w17) (
  R (.bool false) w17)) (
  nn x0 fun a75 =>
  ldP (a75.add 1) w17 fun p76 =>
  call Try.prog 25 #[.pointer p76, .int .i64 n23] w17 fun v77 w18 =>
  asI .u32 v77 fun n78 =>
  br ((n73 : Int) == n78) (
  R (.bool ((n74 : Int) == 0)) w18) (
  R (.bool false) w18))) (
  br ((n26 : Int) == 5) (
  nn x0 fun a79 =>
  ldP (a79.add 1) w16.drew fun p80 =>
  ldI .u64 ((⟨k1, 0, none⟩ : Addr).add 2) w16.drew fun n81 =>
  call Try.prog 26 #[.pointer p80, .int .u64 n81] w16.drew fun v82 w19 =>
  asI .i64 v82 fun n83 =>
  br (decide ((n83 : Int) ≥ 0)) (
  nn x0 fun a84 =>
  ldP (a84.add 1) w19 fun p85 =>
  nn p85 fun a86 =>
  ldS (a86.add 1) w19 fun p87 l87 c87 =>
  idx p87 l87 n83 4 fun a88 =>
  st (a88.add 2) (.bool true) w19 fun w20 =>
  nn x0 fun a89 =>
  ldP (a89.add 0) w20.drew fun p90 =>
  ldI .u64 ((⟨k1, 0, none⟩ : Addr).add 2) w20.drew fun n91 =>
  call Try.prog 14 #[.pointer p90, .int .u64 n91] w20.drew fun v92 w21 =>
  asB v92 fun b93 =>
  R (.bool (b93 == (decide ((n83 : Int) ≥ 0)))) w21) (
  nn x0 fun a94 =>
  ldP (a94.add 0) w19.drew fun p95 =>
  ldI .u64 ((⟨k1, 0, none⟩ : Addr).add 2) w19.drew fun n96 =>
  call Try.prog 14 #[.pointer p95, .int .u64 n96] w19.drew fun v97 w22 =>
  asB v97 fun b98 =>
  R (.bool (b98 == (decide ((n83 : Int) ≥ 0)))) w22)) (
  nn x0 fun a99 =>
  ldP (a99.add 0) w16 fun p100 =>
  call Try.prog 16 #[.pointer p100, .int .u64 n19] w16 fun v101 w23 =>
  ∃ (n102 : Int) (n103 : Int),
  v101 = .tuple #[.int .u64 n102, .int .i64 n103] ∧
  br (decide ((n23 : Int) < 0)) (
  br ((n102 : Int) == 0) (
  R (.bool ((n103 : Int) == 2)) w23) (
  R (.bool false) w23)) (
  nn x0 fun a104 =>
  ldP (a104.add 1) w23 fun p105 =>
  nn p105 fun a106 =>
  ldS (a106.add 1) w23 fun p107 l107 c107 =>
  idx p107 l107 n23 4 fun a108 =>
  ldB (a108.add 2) w23 fun b109 =>
  br b109 (
  br ((n102 : Int) == 0) (
  R (.bool ((n103 : Int) == 10)) w23) (
  R (.bool false) w23)) (
  nn x0 fun a110 =>
  ldP (a110.add 1) w23 fun p111 =>
  nn p111 fun a112 =>
  ldS (a112.add 1) w23 fun p113 l113 c113 =>
  idx p113 l113 n23 4 fun a114 =>
  ldI .u64 (a114.add 1) w23 fun n115 =>
  br ((n102 : Int) == n115) (
  R (.bool ((n103 : Int) == 0)) w23) (
  R (.bool false) w23)))))))
@[irreducible] def tenonlaw12_Pair_do_ann : Ann := .seq .none (.seq .none (.meet [(5, .int .u64)] (.meet [(28, .bool)] .none (.seq (.draw [[], [0], [0, 1], [0, 1, 2], [], [4], [], [6], [6, 7], [6, 7, 8], [6, 7, 8, 9], [4, 5, 6, 7, 8, 9, 10], [0, 1, 2, 3, 4, 5, 6, 7, 8, 9, 10, 11], [0, 1, 2, 3, 4, 5, 6, 7, 8, 9, 10, 11, 12], [0, 1, 2, 3, 4, 5, 6, 7, 8, 9, 10, 11, 12, 13]] (ol [0, 1, 2, 3, 4, 5, 6, 7, 8, 9, 10, 11, 12, 13, 14] .nil)) .none)) (.seq .none (.seq (.seq .none (.one (.meet [(52, .bool)] .none (.seq (.seq (.draw [[], [0], [0, 1], [0, 1, 2], [], [4], [0, 1, 2, 3, 4, 5], [0, 1, 2, 3, 4, 5, 6], [0, 1, 2, 3, 4, 5, 6, 7], [0, 1, 2, 3, 4, 5, 6, 7], [0, 1, 2, 3, 4, 5, 6, 7, 8], [0, 1, 2, 3, 4, 5, 6, 7, 8, 9, 10]] (ol [0, 1, 2, 3, 4, 5, 6, 7, 8, 9, 10, 11] .nil)) (.seq (.draw [[], [0], [0, 1], [0, 1, 2], [], [4], [0, 1, 2, 3, 4, 5], [0, 1, 2, 3, 4, 5, 6]] (ol [0, 1, 2, 3, 4, 5, 6, 7] .nil)) (.meet [] .none .none))) (.seq .none (.seq .none (.meet [(152, .bool)] .none (.seq .none (.seq .none (.seq (.seq (.draw [[], [0], [0, 1], [0, 1, 2], [], [4], [0, 1, 2, 3, 4, 5], [0, 1, 2, 3, 4, 5, 6]] (ol [0, 1, 2, 3, 4, 5, 6, 7] .nil)) (.seq .none (.seq (.draw [[], [0], [0, 1], [0, 1, 2], [], [4], [0, 1, 2, 3, 4, 5], [], [7], [0, 1, 2, 3, 4, 5, 6, 7, 8], [0, 1, 2, 3, 4, 5, 6, 7, 8, 9]] (ol [0, 1, 2, 3, 4, 5, 7, 8, 6, 9, 10] .nil)) .none))) .none)))))))))) .none))))
theorem tenonlaw12_Pair_do_call {x0 : Option Addr} {x1 : Array Value} {R : Value → World → Prop} {w : World} (h : tenonlaw12_Pair_do x0 x1 R w) : call Try.prog 11 #[.pointer x0, .agg x1] w R :=
  call_of_fnW plain mixed Try.func11 tenonlaw12_Pair_do_ann (Eq.mp (by kernel_rfl : tenonlaw12_Pair_do x0 x1 R w = fnW Try.prog Try.f11 tenonlaw12_Pair_do_ann #[.pointer x0, .agg x1] R w) h)

def weak_Table_Of (x0 : Option Addr) (x1 : Int) (R : Value → World → Prop) (w : World) : Prop :=
  br x0.isNone (
  R (.tuple #[.int .u64 0, .int .i64 3]) w) (
  nn x0 fun a1 =>
  ldM (a1.add 1) w fun r2 =>
  lookW Try.prog 66 r2 (.int .u64 x1) true w fun v3 =>
  ∃ (n4 : Int) (b5 : Bool),
  v3 = .tuple #[.int .u64 n4, .bool b5] ∧
  br b5 (
  call Try.prog 21 #[.pointer x0, .int .u64 n4] w fun v6 w1 =>
  ∃ (n7 : Int) (n8 : Int),
  v6 = .tuple #[.int .u32 n7, .int .i64 n8] ∧
  br ((n8 : Int) != 0) (
  R (.tuple #[.int .u64 0, .int .i64 n8]) w1) (
  R (.tuple #[.int .u64 n4, .int .i64 0]) w1)) (
  nn x0 fun a9 =>
  ldP (a9.add 0) w fun p10 =>
  new #[.int .u64 x1, .bool false, .int .u32 1] 75 w fun k11 w2 =>
  call Try.prog 27 #[.pointer p10, .pointer (some (⟨k11, 0, none⟩ : Addr))] w2 fun v12 w3 =>
  ∃ (n13 : Int) (n14 : Int),
  v12 = .tuple #[.int .u64 n13, .int .i64 n14] ∧
  br ((n14 : Int) == 0) (
  nn x0 fun a15 =>
  ldM (a15.add 1) w3 fun r16 =>
  setM Try.prog 66 r16 (.int .u64 x1) (.int .u64 n13) w3 fun w4 =>
  R (.tuple #[.int .u64 n13, .int .i64 n14]) w4) (
  R (.tuple #[.int .u64 n13, .int .i64 n14]) w3)))
@[irreducible] def weak_Table_Of_ann : Ann := .none
theorem weak_Table_Of_call {x0 : Option Addr} {x1 : Int} {R : Value → World → Prop} {w : World} (h : weak_Table_Of x0 x1 R w) : call Try.prog 12 #[.pointer x0, .int .u64 x1] w R :=
  call_of_fnW plain mixed Try.func12 weak_Table_Of_ann (Eq.mp (by kernel_rfl : weak_Table_Of x0 x1 R w = fnW Try.prog Try.f12 weak_Table_Of_ann #[.pointer x0, .int .u64 x1] R w) h)

def tenonref01_Pick (x0 : Int) (x1 : Int) (R : Value → World → Prop) (w : World) : Prop :=
  br (decide ((x1 : Int) < 1)) (
  R (.int .i64 0) w) (
  rem x0 x1 fun n1 =>
  br (decide ((n1 : Int) < 0)) (
  arith .i64 (n1 + x1) fun n2 =>
  R (.int .i64 n2) w) (
  R (.int .i64 n1) w))
@[irreducible] def tenonref01_Pick_ann : Ann := .none
theorem tenonref01_Pick_call {x0 : Int} {x1 : Int} {R : Value → World → Prop} {w : World} (h : tenonref01_Pick x0 x1 R w) : call Try.prog 13 #[.int .i64 x0, .int .i64 x1] w R :=
  call_of_fnW plain mixed Try.func13 tenonref01_Pick_ann (Eq.mp (by kernel_rfl : tenonref01_Pick x0 x1 R w = fnW Try.prog Try.f13 tenonref01_Pick_ann #[.int .i64 x0, .int .i64 x1] R w) h)

def weak_Table_Die (x0 : Option Addr) (x1 : Int) (R : Value → World → Prop) (w : World) : Prop :=
  br x0.isNone (
  R (.bool false) w) (
  nn x0 fun a1 =>
  ldM (a1.add 1) w fun r2 =>
  lookW Try.prog 66 r2 (.int .u64 x1) true w fun v3 =>
  ∃ (n4 : Int) (b5 : Bool),
  v3 = .tuple #[.int .u64 n4, .bool b5] ∧
  br b5 (
  call Try.prog 28 #[.pointer x0, .int .u64 n4] w fun v6 w1 =>
  ∃ (p7 : Option Addr) (n8 : Int),
  v6 = .tuple #[.pointer p7, .int .i64 n8] ∧
  nn p7 fun a9 =>
  st (a9.add 1) (.bool true) w1 fun w2 =>
  nn x0 fun a10 =>
  ldM (a10.add 1) w2 fun r11 =>
  delM Try.prog #[66, 35] 0 r11 (.int .u64 x1) w2 fun w3 =>
  R (.bool b5) w3) (
  R (.bool b5) w))
@[irreducible] def weak_Table_Die_ann : Ann := .none
theorem weak_Table_Die_call {x0 : Option Addr} {x1 : Int} {R : Value → World → Prop} {w : World} (h : weak_Table_Die x0 x1 R w) : call Try.prog 14 #[.pointer x0, .int .u64 x1] w R :=
  call_of_fnW plain mixed Try.func14 weak_Table_Die_ann (Eq.mp (by kernel_rfl : weak_Table_Die x0 x1 R w = fnW Try.prog Try.f14 weak_Table_Die_ann #[.pointer x0, .int .u64 x1] R w) h)

def weak_Table_Down (x0 : Option Addr) (x1 : Int) (R : Value → World → Prop) (w : World) : Prop :=
  call Try.prog 28 #[.pointer x0, .int .u64 x1] w fun v1 w1 =>
  ∃ (p2 : Option Addr) (n3 : Int),
  v1 = .tuple #[.pointer p2, .int .i64 n3] ∧
  br ((n3 : Int) != 0) (
  R (.tuple #[.int .u32 0, .int .i64 n3]) w1) (
  nn p2 fun a4 =>
  ldI .u32 (a4.add 2) w1 fun n5 =>
  arith .u32 (n5 - 1) fun n6 =>
  nn p2 fun a7 =>
  st (a7.add 2) (.int .u32 n6) w1 fun w2 =>
  nn p2 fun a8 =>
  ldI .u32 (a8.add 2) w2 fun n9 =>
  br ((n9 : Int) == 0) (
  nn x0 fun a10 =>
  ldP (a10.add 0) w2 fun p11 =>
  call Try.prog 29 #[.pointer p11, .int .u64 x1] w2 fun v12 w3 =>
  ∃ (p13 : Option Addr) (n14 : Int),
  v12 = .tuple #[.pointer p13, .int .i64 n14] ∧
  nn p2 fun a15 =>
  ldB (a15.add 1) w3 fun b16 =>
  br (!b16) (
  nn x0 fun a17 =>
  ldM (a17.add 1) w3.drew fun r18 =>
  nn p2 fun a19 =>
  ldI .u64 (a19.add 0) w3.drew fun n20 =>
  delM Try.prog #[66, 35] 0 r18 (.int .u64 n20) w3.drew fun w4 =>
  nn p2 fun a21 =>
  ldI .u32 (a21.add 2) w4 fun n22 =>
  R (.tuple #[.int .u32 n22, .int .i64 0]) w4) (
  nn p2 fun a23 =>
  ldI .u32 (a23.add 2) w3 fun n24 =>
  R (.tuple #[.int .u32 n24, .int .i64 0]) w3)) (
  nn p2 fun a25 =>
  ldI .u32 (a25.add 2) w2 fun n26 =>
  R (.tuple #[.int .u32 n26, .int .i64 0]) w2))
@[irreducible] def weak_Table_Down_ann : Ann := .seq .none (.seq .none (.seq .none (.seq .none (.seq (.seq .none (.seq (.seq .none (.seq .none (.seq (.draw [[], [0], [0, 1], [0, 1, 2], [], [4], [4, 5], [4, 5, 6], [0, 1, 2, 3, 4, 5, 6, 7]] (ol [0, 1, 2, 3, 4, 5, 6, 7, 8] .nil)) .none))) .none)) .none))))
theorem weak_Table_Down_call {x0 : Option Addr} {x1 : Int} {R : Value → World → Prop} {w : World} (h : weak_Table_Down x0 x1 R w) : call Try.prog 15 #[.pointer x0, .int .u64 x1] w R :=
  call_of_fnW plain mixed Try.func15 weak_Table_Down_ann (Eq.mp (by kernel_rfl : weak_Table_Down x0 x1 R w = fnW Try.prog Try.f15 weak_Table_Down_ann #[.pointer x0, .int .u64 x1] R w) h)

def weak_Table_Lock (x0 : Option Addr) (x1 : Int) (R : Value → World → Prop) (w : World) : Prop :=
  call Try.prog 28 #[.pointer x0, .int .u64 x1] w fun v1 w1 =>
  ∃ (p2 : Option Addr) (n3 : Int),
  v1 = .tuple #[.pointer p2, .int .i64 n3] ∧
  br ((n3 : Int) != 0) (
  R (.tuple #[.int .u64 0, .int .i64 n3]) w1) (
  nn p2 fun a4 =>
  ldB (a4.add 1) w1 fun b5 =>
  br b5 (
  R (.tuple #[.int .u64 0, .int .i64 10]) w1) (
  nn p2 fun a6 =>
  ldI .u64 (a6.add 0) w1 fun n7 =>
  R (.tuple #[.int .u64 n7, .int .i64 0]) w1))
@[irreducible] def weak_Table_Lock_ann : Ann := .none
theorem weak_Table_Lock_call {x0 : Option Addr} {x1 : Int} {R : Value → World → Prop} {w : World} (h : weak_Table_Lock x0 x1 R w) : call Try.prog 16 #[.pointer x0, .int .u64 x1] w R :=
  call_of_fnW plain mixed Try.func16 weak_Table_Lock_ann (Eq.mp (by kernel_rfl : weak_Table_Lock x0 x1 R w = fnW Try.prog Try.f16 weak_Table_Lock_ann #[.pointer x0, .int .u64 x1] R w) h)

def tenonref02_Arena_All (x0 : Option Addr) (R : Value → World → Prop) (w : World) : Prop :=
  ∃ I1 : Option Addr → Nat → Nat → Int → World → Nat → Prop, (∃ m2, I1 none 0 0 0 w m2) ∧
  ∀ (u3 : Nat → Value) (p4 : Option Addr) (l4 c4 : Nat) (n5 : Int) (w1 : World) (m6 : Nat), I1 p4 l4 c4 n5 w1 m6 →
  nn x0 fun a7 =>
  ldS (a7.add 2) w1 fun p8 l8 c8 =>
  br (decide ((n5 : Int) < (l8 : Int))) (
  nn x0 fun a9 =>
  ldS (a9.add 2) w1 fun p10 l10 c10 =>
  idx p10 l10 n5 3 fun a11 =>
  ldI .i64 (a11.add 2) w1 fun n12 =>
  br ((n12 : Int) == 1) (
  nn x0 fun a13 =>
  ldS (a13.add 2) w1 fun p14 l14 c14 =>
  idx p14 l14 n5 3 fun a15 =>
  ldI .u32 (a15.add 1) w1 fun n16 =>
  call Try.prog 30 #[.int .i64 n5, .int .u32 n16] w1 fun v17 w2 =>
  asI .u64 v17 fun n18 =>
  new #[.int .u64 n18] 35 w2 fun k19 w3 =>
  runsS Try.prog (Builtin.append_ #[31, 31] 31 #[.slice p4 l4 c4, .slice (some (⟨k19, 0, none⟩ : Addr)) 1 1]) w3 fun p20 l20 c20 w4 =>
  arith .i64 (n5 + 1) fun n21 =>
  ∃ m22, m22 < m6 ∧ I1 p20 l20 c20 n21 w4 m22) (
  arith .i64 (n5 + 1) fun n23 =>
  ∃ m24, m24 < m6 ∧ I1 p4 l4 c4 n23 w1 m24)) (
  R (.slice p4 l4 c4) w1)
@[irreducible] def tenonref02_Arena_All_ann : Ann := .seq .none (.seq .none (.seq (.seq .none (.one (.loop [(3, .slice), (4, .int .i64)] .none))) .none))
theorem tenonref02_Arena_All_call {x0 : Option Addr} {R : Value → World → Prop} {w : World} (h : tenonref02_Arena_All x0 R w) : call Try.prog 17 #[.pointer x0] w R :=
  call_of_fnW plain mixed Try.func17 tenonref02_Arena_All_ann (Eq.mp (by kernel_rfl : tenonref02_Arena_All x0 R w = fnW Try.prog Try.f17 tenonref02_Arena_All_ann #[.pointer x0] R w) h)

def tenonlaw12_told (x0 : Option Addr) (x1 : Int) (R : Value → World → Prop) (w : World) : Prop :=
  new #[.int .i64 x1] 3 w fun k1 w1 =>
  new #[.slice none 0 0] 31 w1 fun k2 w2 =>
  new #[.slice none 0 0] 31 w2 fun k3 w3 =>
  call Try.prog 31 #[.pointer x0] w3 fun v4 w4 =>
  asF v4 fun f5 q5 t5 =>
  rangeW Try.prog (.func f5 q5 t5) 2 (fun xs6 N7 J8 T9 w5 => ∃ (n10 : Int) (n11 : Int), xs6 = #[.int .u64 n10, .int .u64 n11] ∧
  T9 w5 fun w6 =>
  ldS (⟨k2, 0, none⟩ : Addr) w6 fun p12 l12 c12 =>
  ldI .i64 (⟨k1, 0, none⟩ : Addr) w6 fun n13 =>
  br (decide ((l12 : Int) ≥ n13)) (
  J8 (.exit 0) w6) (
  ldS (⟨k2, 0, none⟩ : Addr) w6 fun p14 l14 c14 =>
  new #[.int .u64 n10] 35 w6 fun k15 w7 =>
  runsS Try.prog (Builtin.append_ #[31, 31] 31 #[.slice p14 l14 c14, .slice (some (⟨k15, 0, none⟩ : Addr)) 1 1]) w7 fun p16 l16 c16 w8 =>
  st (⟨k2, 0, none⟩ : Addr) (.slice p16 l16 c16) w8 fun w9 =>
  ldS (⟨k3, 0, none⟩ : Addr) w9 fun p17 l17 c17 =>
  new #[.int .u64 n11] 35 w9 fun k18 w10 =>
  runsS Try.prog (Builtin.append_ #[31, 31] 31 #[.slice p17 l17 c17, .slice (some (⟨k18, 0, none⟩ : Addr)) 1 1]) w10 fun p19 l19 c19 w11 =>
  st (⟨k3, 0, none⟩ : Addr) (.slice p19 l19 c19) w11 fun w12 =>
  N7 w12)) (fun D20 w13 =>
  ldS (⟨k2, 0, none⟩ : Addr) w13.drew fun p21 l21 c21 =>
  ldS (⟨k3, 0, none⟩ : Addr) w13.drew fun p22 l22 c22 =>
  shutD D20 w13.drew fun w14 =>
  R (.tuple #[.slice p21 l21 c21, .slice p22 l22 c22]) w14) (fun D23 c24 w15 => jmp c24 (
  False) [(0, ldS (⟨k2, 0, none⟩ : Addr) w15.drew fun p25 l25 c25 =>
  ldS (⟨k3, 0, none⟩ : Addr) w15.drew fun p26 l26 c26 =>
  shutD D23 w15.drew fun w16 =>
  R (.tuple #[.slice p25 l25 c25, .slice p26 l26 c26]) w16)]) w4
@[irreducible] def tenonlaw12_told_ann : Ann := .seq .none (.seq .none (.seq (.seq .none (.seq .none (.seq (.seq .none (.one (.range [.int .u64, .int .u64] .none .none))) .none))) (.seq (.draw [[], [], [0], [0, 1, 2]] (ol [0, 1, 2, 3] .nil)) .none)))
theorem tenonlaw12_told_call {x0 : Option Addr} {x1 : Int} {R : Value → World → Prop} {w : World} (h : tenonlaw12_told x0 x1 R w) : call Try.prog 18 #[.pointer x0, .int .i64 x1] w R :=
  call_of_fnW plain mixed Try.func18 tenonlaw12_told_ann (Eq.mp (by kernel_rfl : tenonlaw12_told x0 x1 R w = fnW Try.prog Try.f18 tenonlaw12_told_ann #[.pointer x0, .int .i64 x1] R w) h)

def tenonref01_SameLongs (x0 : Option Addr) (y0 z0 : Nat) (x1 : Option Addr) (y1 z1 : Nat) (R : Value → World → Prop) (w : World) : Prop :=
  br ((y0 : Int) != (y1 : Int)) (
  R (.bool false) w) (
  ∃ I1 : Int → World → Nat → Prop, (∃ m2, I1 0 w m2) ∧
  ∀ (u3 : Nat → Value) (n4 : Int) (w1 : World) (m5 : Nat), I1 n4 w1 m5 →
  br (decide ((n4 : Int) < (y0 : Int))) (
  idx x0 y0 n4 1 fun a6 =>
  ldI .u64 a6 w1.drew fun n7 =>
  idx x1 y1 n4 1 fun a8 =>
  ldI .u64 a8 w1.drew fun n9 =>
  br ((n7 : Int) != n9) (
  R (.bool false) w1.drew) (
  arith .i64 (n4 + 1) fun n10 =>
  ∃ m11, m11 < m5 ∧ I1 n10 w1.drew m11)) (
  R (.bool true) w1))
@[irreducible] def tenonref01_SameLongs_ann : Ann := .seq .none (.seq .none (.seq (.seq .none (.one (.loop [(5, .int .i64)] (.seq .none (.seq (.one (.seq (.draw [[], [], [0, 1], [0, 1, 2], [], [], [4, 5], [4, 5, 6], [0, 1, 2, 3, 4, 5, 6, 7]] (ol [0, 1, 2, 3, 4, 5, 6, 7, 8] .nil)) .none)) .none))))) .none))
theorem tenonref01_SameLongs_call {x0 : Option Addr} {y0 z0 : Nat} {x1 : Option Addr} {y1 z1 : Nat} {R : Value → World → Prop} {w : World} (h : tenonref01_SameLongs x0 y0 z0 x1 y1 z1 R w) : call Try.prog 19 #[.slice x0 y0 z0, .slice x1 y1 z1] w R :=
  call_of_fnW plain mixed Try.func19 tenonref01_SameLongs_ann (Eq.mp (by kernel_rfl : tenonref01_SameLongs x0 y0 z0 x1 y1 z1 R w = fnW Try.prog Try.f19 tenonref01_SameLongs_ann #[.slice x0 y0 z0, .slice x1 y1 z1] R w) h)

def tenonref12_Table_At (x0 : Option Addr) (x1 : Int) (R : Value → World → Prop) (w : World) : Prop :=
  ∃ I1 : Int → World → Nat → Prop, (∃ m2, I1 0 w m2) ∧
  ∀ (u3 : Nat → Value) (n4 : Int) (w1 : World) (m5 : Nat), I1 n4 w1 m5 →
  nn x0 fun a6 =>
  ldS (a6.add 1) w1 fun p7 l7 c7 =>
  br (decide ((n4 : Int) < (l7 : Int))) (
  nn x0 fun a8 =>
  ldS (a8.add 1) w1 fun p9 l9 c9 =>
  idx p9 l9 n4 4 fun a10 =>
  ldI .u64 (a10.add 0) w1 fun n11 =>
  br ((n11 : Int) == x1) (
  R (.int .i64 n4) w1) (
  arith .i64 (n4 + 1) fun n12 =>
  ∃ m13, m13 < m5 ∧ I1 n12 w1 m13)) (
  R (.int .i64 (-1)) w1)
@[irreducible] def tenonref12_Table_At_ann : Ann := .seq .none (.seq (.seq .none (.one (.loop [(5, .int .i64)] .none))) .none)
theorem tenonref12_Table_At_call {x0 : Option Addr} {x1 : Int} {R : Value → World → Prop} {w : World} (h : tenonref12_Table_At x0 x1 R w) : call Try.prog 20 #[.pointer x0, .int .u64 x1] w R :=
  call_of_fnW plain mixed Try.func20 tenonref12_Table_At_ann (Eq.mp (by kernel_rfl : tenonref12_Table_At x0 x1 R w = fnW Try.prog Try.f20 tenonref12_Table_At_ann #[.pointer x0, .int .u64 x1] R w) h)

def weak_Table_Up (x0 : Option Addr) (x1 : Int) (R : Value → World → Prop) (w : World) : Prop :=
  call Try.prog 28 #[.pointer x0, .int .u64 x1] w fun v1 w1 =>
  ∃ (p2 : Option Addr) (n3 : Int),
  v1 = .tuple #[.pointer p2, .int .i64 n3] ∧
  br ((n3 : Int) != 0) (
  R (.tuple #[.int .u32 0, .int .i64 n3]) w1) (
  nn p2 fun a4 =>
  ldI .u32 (a4.add 2) w1 fun n5 =>
  br ((n5 : Int) == 4294967295) (
  R (.tuple #[.int .u32 0, .int .i64 4]) w1) (
  nn p2 fun a6 =>
  ldI .u32 (a6.add 2) w1 fun n7 =>
  arith .u32 (n7 + 1) fun n8 =>
  nn p2 fun a9 =>
  st (a9.add 2) (.int .u32 n8) w1 fun w2 =>
  nn p2 fun a10 =>
  ldI .u32 (a10.add 2) w2 fun n11 =>
  R (.tuple #[.int .u32 n11, .int .i64 0]) w2))
@[irreducible] def weak_Table_Up_ann : Ann := .none
theorem weak_Table_Up_call {x0 : Option Addr} {x1 : Int} {R : Value → World → Prop} {w : World} (h : weak_Table_Up x0 x1 R w) : call Try.prog 21 #[.pointer x0, .int .u64 x1] w R :=
  call_of_fnW plain mixed Try.func21 weak_Table_Up_ann (Eq.mp (by kernel_rfl : weak_Table_Up x0 x1 R w = fnW Try.prog Try.f21 weak_Table_Up_ann #[.pointer x0, .int .u64 x1] R w) h)

def arena_New (x0 : Int) (x1 : Int) (R : Value → World → Prop) (w : World) : Prop :=
  br (decide ((x0 : Int) < 1)) (
  R (.tuple #[.pointer none, .int .i64 1]) w) (
  br (decide ((x0 : Int) > 65536)) (
  R (.tuple #[.pointer none, .int .i64 1]) w) (
  br ((x1 : Int) == 0) (
  R (.tuple #[.pointer none, .int .i64 1]) w) (
  new #[.int .i64 x0, .int .u32 x1, .slice none 0 0, .slice none 0 0, .int .i64 0] 90 w fun k1 w1 =>
  R (.tuple #[.pointer (some (⟨k1, 0, none⟩ : Addr)), .int .i64 0]) w1)))
@[irreducible] def arena_New_ann : Ann := .none
theorem arena_New_call {x0 : Int} {x1 : Int} {R : Value → World → Prop} {w : World} (h : arena_New x0 x1 R w) : call Try.prog 22 #[.int .i64 x0, .int .u32 x1] w R :=
  call_of_fnW plain mixed Try.func22 arena_New_ann (Eq.mp (by kernel_rfl : arena_New x0 x1 R w = fnW Try.prog Try.f22 arena_New_ann #[.int .i64 x0, .int .u32 x1] R w) h)

def tenonref02_New (x0 : Int) (x1 : Int) (R : Value → World → Prop) (w : World) : Prop :=
  br (decide ((x0 : Int) < 1)) (
  R (.pointer none) w) (
  br (decide ((x0 : Int) > 65536)) (
  R (.pointer none) w) (
  br ((x1 : Int) == 0) (
  R (.pointer none) w) (
  new #[.int .i64 x0, .int .u32 x1, .slice none 0 0, .slice none 0 0] 81 w fun k1 w1 =>
  R (.pointer (some (⟨k1, 0, none⟩ : Addr))) w1)))
@[irreducible] def tenonref02_New_ann : Ann := .none
theorem tenonref02_New_call {x0 : Int} {x1 : Int} {R : Value → World → Prop} {w : World} (h : tenonref02_New x0 x1 R w) : call Try.prog 23 #[.int .i64 x0, .int .u32 x1] w R :=
  call_of_fnW plain mixed Try.func23 tenonref02_New_ann (Eq.mp (by kernel_rfl : tenonref02_New x0 x1 R w = fnW Try.prog Try.f23 tenonref02_New_ann #[.int .i64 x0, .int .u32 x1] R w) h)

def tenonref12_Table_Of (x0 : Option Addr) (x1 : Int) (R : Value → World → Prop) (w : World) : Prop :=
  call Try.prog 26 #[.pointer x0, .int .u64 x1] w fun v1 w1 =>
  asI .i64 v1 fun n2 =>
  br (decide ((n2 : Int) ≥ 0)) (
  nn x0 fun a3 =>
  ldS (a3.add 1) w1 fun p4 l4 c4 =>
  idx p4 l4 n2 4 fun a5 =>
  ldI .u32 (a5.add 3) w1 fun n6 =>
  arith .u32 (n6 + 1) fun n7 =>
  idx p4 l4 n2 4 fun a8 =>
  st (a8.add 3) (.int .u32 n7) w1 fun w2 =>
  nn x0 fun a9 =>
  ldS (a9.add 1) w2 fun p10 l10 c10 =>
  idx p10 l10 n2 4 fun a11 =>
  ldI .u64 (a11.add 0) w2 fun n12 =>
  R (.int .u64 n12) w2) (
  nn x0 fun a13 =>
  ldP (a13.add 0) w1 fun p14 =>
  call Try.prog 32 #[.pointer p14, .int .i64 0] w1 fun v15 w3 =>
  asI .u64 v15 fun n16 =>
  br ((n16 : Int) != 0) (
  nn x0 fun a17 =>
  ldS (a17.add 1) w3 fun p18 l18 c18 =>
  (#[.int .u64 n16, .int .u64 x1, .bool false, .int .u32 1] : Array Value).size = 4 ∧
  new #[.int .u64 n16, .int .u64 x1, .bool false, .int .u32 1] 56 w3 fun k19 w4 =>
  runsS Try.prog (Builtin.append_ #[48, 48] 48 #[.slice p18 l18 c18, .slice (some (⟨k19, 0, none⟩ : Addr)) 1 1]) w4 fun p20 l20 c20 w5 =>
  nn x0 fun a21 =>
  st (a21.add 1) (.slice p20 l20 c20) w5 fun w6 =>
  R (.int .u64 n16) w6) (
  R (.int .u64 n16) w3))
@[irreducible] def tenonref12_Table_Of_ann : Ann := .none
theorem tenonref12_Table_Of_call {x0 : Option Addr} {x1 : Int} {R : Value → World → Prop} {w : World} (h : tenonref12_Table_Of x0 x1 R w) : call Try.prog 24 #[.pointer x0, .int .u64 x1] w R :=
  call_of_fnW plain mixed Try.func24 tenonref12_Table_Of_ann (Eq.mp (by kernel_rfl : tenonref12_Table_Of x0 x1 R w = fnW Try.prog Try.f24 tenonref12_Table_Of_ann #[.pointer x0, .int .u64 x1] R w) h)

def tenonref12_Table_Down (x0 : Option Addr) (x1 : Int) (R : Value → World → Prop) (w : World) : Prop :=
  nn x0 fun a1 =>
  ldS (a1.add 1) w fun p2 l2 c2 =>
  idx p2 l2 x1 4 fun a3 =>
  ldI .u32 (a3.add 3) w fun n4 =>
  arith .u32 (n4 - 1) fun n5 =>
  idx p2 l2 x1 4 fun a6 =>
  st (a6.add 3) (.int .u32 n5) w fun w1 =>
  nn x0 fun a7 =>
  ldS (a7.add 1) w1 fun p8 l8 c8 =>
  idx p8 l8 x1 4 fun a9 =>
  ldI .u32 (a9.add 3) w1 fun n10 =>
  br ((n10 : Int) == 0) (
  nn x0 fun a11 =>
  ldP (a11.add 0) w1.drew fun p12 =>
  nn x0 fun a13 =>
  ldP (a13.add 0) w1.drew fun p14 =>
  nn x0 fun a15 =>
  ldS (a15.add 1) w1.drew fun p16 l16 c16 =>
  idx p16 l16 x1 4 fun a17 =>
  ldI .u64 (a17.add 0) w1.drew fun n18 =>
  call Try.prog 34 #[.pointer p14, .int .u64 n18] w1.drew fun v19 w2 =>
  asI .i64 v19 fun n20 =>
  w2.cell? (a11.add 0) = some (.pointer p12) ∧
  call Try.prog 33 #[.pointer p12, .int .i64 n20] w2 fun v21 w3 =>
  v21 = .tuple #[] ∧
  nn x0 fun a22 =>
  ldS (a22.add 1) w3 fun p23 l23 c23 =>
  slc p23 c23 4 0 x1 fun p24 l24 c24 =>
  runsS Try.prog (Builtin.append_ #[48, 48] 48 #[.slice none 0 0, .slice p24 l24 c24]) w3 fun p25 l25 c25 w4 =>
  nn x0 fun a26 =>
  ldS (a26.add 1) w4 fun p27 l27 c27 =>
  arith .i64 (x1 + 1) fun n28 =>
  slc p27 c27 4 n28 ((l27 : Int)) fun p29 l29 c29 =>
  runsS Try.prog (Builtin.append_ #[48, 48] 48 #[.slice p25 l25 c25, .slice p29 l29 c29]) w4 fun p30 l30 c30 w5 =>
  nn x0 fun a31 =>
  st (a31.add 1) (.slice p30 l30 c30) w5 fun w6 =>
  R (.int .u32 n10) w6) (
  R (.int .u32 n10) w1)
@[irreducible] def tenonref12_Table_Down_ann : Ann := .seq .none (.seq .none (.seq .none (.seq (.seq .none (.seq (.seq (.draw [[], [0], [0, 1], [0, 1, 2], [], [4], [4, 5], [4, 5, 6], [], [8], [8, 9], [8, 9, 10], [], [8, 9, 10, 11, 12], [8, 9, 10, 11, 12, 13], [8, 9, 10, 11, 12, 13, 14], [4, 5, 6, 7, 8, 9, 10, 11, 12, 13, 14, 15], [0, 1, 2, 3, 4, 5, 6, 7, 8, 9, 10, 11, 12, 13, 14, 15, 16]] (ol [0, 1, 2, 3, 4, 5, 6, 7, 8, 9, 10, 11, 12, 13, 14, 15, 16, 17] .nil)) .none) .none)) .none)))
theorem tenonref12_Table_Down_call {x0 : Option Addr} {x1 : Int} {R : Value → World → Prop} {w : World} (h : tenonref12_Table_Down x0 x1 R w) : call Try.prog 25 #[.pointer x0, .int .i64 x1] w R :=
  call_of_fnW plain mixed Try.func25 tenonref12_Table_Down_ann (Eq.mp (by kernel_rfl : tenonref12_Table_Down x0 x1 R w = fnW Try.prog Try.f25 tenonref12_Table_Down_ann #[.pointer x0, .int .i64 x1] R w) h)

def tenonref12_Table_Living (x0 : Option Addr) (x1 : Int) (R : Value → World → Prop) (w : World) : Prop :=
  ∃ I1 : Int → World → Nat → Prop, (∃ m2, I1 0 w m2) ∧
  ∀ (u3 : Nat → Value) (n4 : Int) (w1 : World) (m5 : Nat), I1 n4 w1 m5 →
  nn x0 fun a6 =>
  ldS (a6.add 1) w1 fun p7 l7 c7 =>
  br (decide ((n4 : Int) < (l7 : Int))) (
  nn x0 fun a8 =>
  ldS (a8.add 1) w1 fun p9 l9 c9 =>
  idx p9 l9 n4 4 fun a10 =>
  ldI .u64 (a10.add 1) w1 fun n11 =>
  br ((n11 : Int) == x1) (
  nn x0 fun a12 =>
  ldS (a12.add 1) w1 fun p13 l13 c13 =>
  idx p13 l13 n4 4 fun a14 =>
  ldB (a14.add 2) w1 fun b15 =>
  br (!b15) (
  R (.int .i64 n4) w1) (
  arith .i64 (n4 + 1) fun n16 =>
  ∃ m17, m17 < m5 ∧ I1 n16 w1 m17)) (
  arith .i64 (n4 + 1) fun n18 =>
  ∃ m19, m19 < m5 ∧ I1 n18 w1 m19)) (
  R (.int .i64 (-1)) w1)
@[irreducible] def tenonref12_Table_Living_ann : Ann := .seq .none (.seq (.seq .none (.one (.loop [(5, .int .i64)] .none))) .none)
theorem tenonref12_Table_Living_call {x0 : Option Addr} {x1 : Int} {R : Value → World → Prop} {w : World} (h : tenonref12_Table_Living x0 x1 R w) : call Try.prog 26 #[.pointer x0, .int .u64 x1] w R :=
  call_of_fnW plain mixed Try.func26 tenonref12_Table_Living_ann (Eq.mp (by kernel_rfl : tenonref12_Table_Living x0 x1 R w = fnW Try.prog Try.f26 tenonref12_Table_Living_ann #[.pointer x0, .int .u64 x1] R w) h)

def arena_Arena_Put (x0 : Option Addr) (x1 : Option Addr) (R : Value → World → Prop) (w : World) : Prop :=
  br x0.isNone (
  R (.tuple #[.int .u64 0, .int .i64 3]) w) (
  nn x0 fun a1 =>
  ldS (a1.add 2) w fun p2 l2 c2 =>
  ∃ J3 : Int → World → Prop, (
  nn x0 fun a4 =>
  ldS (a4.add 3) w fun p5 l5 c5 =>
  br (decide ((l5 : Int) > 0)) (
  nn x0 fun a6 =>
  ldS (a6.add 3) w fun p7 l7 c7 =>
  arith .i64 ((l5 : Int) - 1) fun n8 =>
  idx p7 l7 n8 1 fun a9 =>
  ldI .i64 a9 w fun n10 =>
  nn x0 fun a11 =>
  ldS (a11.add 3) w fun p12 l12 c12 =>
  arith .i64 ((l5 : Int) - 1) fun n13 =>
  slc p12 c12 1 0 n13 fun p14 l14 c14 =>
  nn x0 fun a15 =>
  st (a15.add 3) (.slice p14 l14 c14) w fun w1 =>
  J3 n10 w1) (
  nn x0 fun a16 =>
  ldI .i64 (a16.add 0) w fun n17 =>
  br ((l2 : Int) == n17) (
  R (.tuple #[.int .u64 0, .int .i64 3]) w) (
  nn x0 fun a18 =>
  ldS (a18.add 2) w.drew fun p19 l19 c19 =>
  nn x0 fun a20 =>
  ldI .u32 (a20.add 1) w.drew fun n21 =>
  (#[.pointer none, .int .u32 n21, .bool false] : Array Value).size = 3 ∧
  new #[.pointer none, .int .u32 n21, .bool false] 94 w.drew fun k22 w2 =>
  runsS Try.prog (Builtin.append_ #[88, 88] 88 #[.slice p19 l19 c19, .slice (some (⟨k22, 0, none⟩ : Addr)) 1 1]) w2 fun p23 l23 c23 w3 =>
  nn x0 fun a24 =>
  st (a24.add 2) (.slice p23 l23 c23) w3 fun w4 =>
  J3 ((l2 : Int)) w4))) ∧
  ∀ (u25 : Nat → Value) (n26 : Int) (w5 : World), J3 n26 w5 →
  nn x0 fun a27 =>
  ldS (a27.add 2) w5 fun p28 l28 c28 =>
  idx p28 l28 n26 3 fun a29 =>
  st (a29.add 0) (.pointer x1) w5 fun w6 =>
  st (a29.add 2) (.bool true) w6 fun w7 =>
  nn x0 fun a30 =>
  ldI .i64 (a30.add 4) w7 fun n31 =>
  arith .i64 (n31 + 1) fun n32 =>
  nn x0 fun a33 =>
  st (a33.add 4) (.int .i64 n32) w7 fun w8 =>
  ldI .u32 (a29.add 1) w8 fun n34 =>
  call Try.prog 35 #[.int .i64 n26, .int .u32 n34] w8 fun v35 w9 =>
  asI .u64 v35 fun n36 =>
  R (.tuple #[.int .u64 n36, .int .i64 0]) w9)
@[irreducible] def arena_Arena_Put_ann : Ann := .seq .none (.seq .none (.seq .none (.meet [(6, .int .i64)] (.seq .none (.seq .none (.seq .none (.seq .none (.seq .none (.draw [[], [], [1], [1, 2], [1, 2, 3], [], [5], [5, 6], [5, 6, 7], [5, 6, 7, 8], [5, 6, 7, 8, 9], [1, 2, 3, 4, 5, 6, 7, 8, 9, 10], [0, 1, 2, 3, 4, 5, 6, 7, 8, 9, 10, 11], [0, 1, 2, 3, 4, 5, 6, 7, 8, 9, 10, 11, 12], [0, 1, 2, 3, 4, 5, 6, 7, 8, 9, 10, 11, 12, 13]] (ol [0, 1, 2, 3, 4, 5, 6, 7, 8, 9, 10, 11, 12, 13, 14] .nil))))))) .none)))
theorem arena_Arena_Put_call {x0 : Option Addr} {x1 : Option Addr} {R : Value → World → Prop} {w : World} (h : arena_Arena_Put x0 x1 R w) : call Try.prog 27 #[.pointer x0, .pointer x1] w R :=
  call_of_fnW plain mixed Try.func27 arena_Arena_Put_ann (Eq.mp (by kernel_rfl : arena_Arena_Put x0 x1 R w = fnW Try.prog Try.f27 arena_Arena_Put_ann #[.pointer x0, .pointer x1] R w) h)

def weak_Table_find (x0 : Option Addr) (x1 : Int) (R : Value → World → Prop) (w : World) : Prop :=
  br x0.isNone (
  R (.tuple #[.pointer none, .int .i64 2]) w) (
  nn x0 fun a1 =>
  ldP (a1.add 0) w fun p2 =>
  call Try.prog 36 #[.pointer p2, .int .u64 x1] w fun v3 w1 =>
  ∃ (p4 : Option Addr) (n5 : Int),
  v3 = .tuple #[.pointer p4, .int .i64 n5] ∧
  R (.tuple #[.pointer p4, .int .i64 n5]) w1)
@[irreducible] def weak_Table_find_ann : Ann := .none
theorem weak_Table_find_call {x0 : Option Addr} {x1 : Int} {R : Value → World → Prop} {w : World} (h : weak_Table_find x0 x1 R w) : call Try.prog 28 #[.pointer x0, .int .u64 x1] w R :=
  call_of_fnW plain mixed Try.func28 weak_Table_find_ann (Eq.mp (by kernel_rfl : weak_Table_find x0 x1 R w = fnW Try.prog Try.f28 weak_Table_find_ann #[.pointer x0, .int .u64 x1] R w) h)

def arena_Arena_Drop (x0 : Option Addr) (x1 : Int) (R : Value → World → Prop) (w : World) : Prop :=
  call Try.prog 37 #[.pointer x0, .int .u64 x1] w fun v1 w1 =>
  ∃ (p2 : Option Addr) (n3 : Int),
  v1 = .tuple #[.pointer p2, .int .i64 n3] ∧
  br p2.isNone (
  R (.tuple #[.pointer none, .int .i64 2]) w1) (
  nn p2 fun a4 =>
  ldP (a4.add 0) w1 fun p5 =>
  nn p2 fun a6 =>
  st (a6.add 0) (.pointer none) w1 fun w2 =>
  nn p2 fun a7 =>
  st (a7.add 2) (.bool false) w2 fun w3 =>
  nn x0 fun a8 =>
  ldI .i64 (a8.add 4) w3 fun n9 =>
  arith .i64 (n9 - 1) fun n10 =>
  nn x0 fun a11 =>
  st (a11.add 4) (.int .i64 n10) w3 fun w4 =>
  nn p2 fun a12 =>
  ldI .u32 (a12.add 1) w4 fun n13 =>
  br (decide ((n13 : Int) < 4294967295)) (
  nn p2 fun a14 =>
  ldI .u32 (a14.add 1) w4 fun n15 =>
  arith .u32 (n15 + 1) fun n16 =>
  nn p2 fun a17 =>
  st (a17.add 1) (.int .u32 n16) w4 fun w5 =>
  nn x0 fun a18 =>
  ldS (a18.add 3) w5 fun p19 l19 c19 =>
  new #[.int .i64 n3] 3 w5 fun k20 w6 =>
  runsS Try.prog (Builtin.append_ #[79, 79] 79 #[.slice p19 l19 c19, .slice (some (⟨k20, 0, none⟩ : Addr)) 1 1]) w6 fun p21 l21 c21 w7 =>
  nn x0 fun a22 =>
  st (a22.add 3) (.slice p21 l21 c21) w7 fun w8 =>
  R (.tuple #[.pointer p5, .int .i64 0]) w8) (
  R (.tuple #[.pointer p5, .int .i64 0]) w4))
@[irreducible] def arena_Arena_Drop_ann : Ann := .none
theorem arena_Arena_Drop_call {x0 : Option Addr} {x1 : Int} {R : Value → World → Prop} {w : World} (h : arena_Arena_Drop x0 x1 R w) : call Try.prog 29 #[.pointer x0, .int .u64 x1] w R :=
  call_of_fnW plain mixed Try.func29 arena_Arena_Drop_ann (Eq.mp (by kernel_rfl : arena_Arena_Drop x0 x1 R w = fnW Try.prog Try.f29 arena_Arena_Drop_ann #[.pointer x0, .int .u64 x1] R w) h)

def tenonref02_Handle (x0 : Int) (x1 : Int) (R : Value → World → Prop) (w : World) : Prop :=
  arith .u64 x1 fun n1 =>
  arith .u64 (n1 * 4294967296) fun n2 =>
  arith .u64 x0 fun n3 =>
  arith .u64 (n2 + n3) fun n4 =>
  arith .u64 (n4 + 1) fun n5 =>
  R (.int .u64 n5) w
@[irreducible] def tenonref02_Handle_ann : Ann := .none
theorem tenonref02_Handle_call {x0 : Int} {x1 : Int} {R : Value → World → Prop} {w : World} (h : tenonref02_Handle x0 x1 R w) : call Try.prog 30 #[.int .i64 x0, .int .u32 x1] w R :=
  call_of_fnW plain mixed Try.func30 tenonref02_Handle_ann (Eq.mp (by kernel_rfl : tenonref02_Handle x0 x1 R w = fnW Try.prog Try.f30 tenonref02_Handle_ann #[.int .i64 x0, .int .u32 x1] R w) h)

def weak_Table_Blocks (x0 : Option Addr) (R : Value → World → Prop) (w : World) : Prop :=
  new #[.pointer x0] 23 w fun k1 w1 =>
  R (.func (.func 38) #[] #[.pointer (some (⟨k1, 0, none⟩ : Addr))]) w1
@[irreducible] def weak_Table_Blocks_ann : Ann := .none
theorem weak_Table_Blocks_call {x0 : Option Addr} {R : Value → World → Prop} {w : World} (h : weak_Table_Blocks x0 R w) : call Try.prog 31 #[.pointer x0] w R :=
  call_of_fnW plain mixed Try.func31 weak_Table_Blocks_ann (Eq.mp (by kernel_rfl : weak_Table_Blocks x0 R w = fnW Try.prog Try.f31 weak_Table_Blocks_ann #[.pointer x0] R w) h)

def tenonref02_Arena_Put (x0 : Option Addr) (x1 : Int) (R : Value → World → Prop) (w : World) : Prop :=
  nn x0 fun a1 =>
  ldS (a1.add 3) w fun p2 l2 c2 =>
  nn x0 fun a3 =>
  ldS (a3.add 2) w fun p4 l4 c4 =>
  br (decide ((l2 : Int) > 0)) (
  nn x0 fun a5 =>
  ldS (a5.add 3) w fun p6 l6 c6 =>
  arith .i64 ((l2 : Int) - 1) fun n7 =>
  idx p6 l6 n7 1 fun a8 =>
  ldI .i64 a8 w fun n9 =>
  nn x0 fun a10 =>
  ldS (a10.add 3) w fun p11 l11 c11 =>
  arith .i64 ((l2 : Int) - 1) fun n12 =>
  slc p11 c11 1 0 n12 fun p13 l13 c13 =>
  nn x0 fun a14 =>
  st (a14.add 3) (.slice p13 l13 c13) w fun w1 =>
  nn x0 fun a15 =>
  ldS (a15.add 2) w1 fun p16 l16 c16 =>
  idx p16 l16 n9 3 fun a17 =>
  st (a17.add 0) (.int .i64 x1) w1 fun w2 =>
  nn x0 fun a18 =>
  ldS (a18.add 2) w2 fun p19 l19 c19 =>
  idx p19 l19 n9 3 fun a20 =>
  st (a20.add 2) (.int .i64 1) w2 fun w3 =>
  nn x0 fun a21 =>
  ldS (a21.add 2) w3 fun p22 l22 c22 =>
  idx p22 l22 n9 3 fun a23 =>
  ldI .u32 (a23.add 1) w3 fun n24 =>
  call Try.prog 30 #[.int .i64 n9, .int .u32 n24] w3 fun v25 w4 =>
  asI .u64 v25 fun n26 =>
  R (.int .u64 n26) w4) (
  nn x0 fun a27 =>
  ldI .i64 (a27.add 0) w fun n28 =>
  br (decide ((l4 : Int) ≥ n28)) (
  R (.int .u64 0) w) (
  nn x0 fun a29 =>
  ldS (a29.add 2) w.drew fun p30 l30 c30 =>
  nn x0 fun a31 =>
  ldI .u32 (a31.add 1) w.drew fun n32 =>
  (#[.int .i64 x1, .int .u32 n32, .int .i64 1] : Array Value).size = 3 ∧
  new #[.int .i64 x1, .int .u32 n32, .int .i64 1] 83 w.drew fun k33 w5 =>
  runsS Try.prog (Builtin.append_ #[78, 78] 78 #[.slice p30 l30 c30, .slice (some (⟨k33, 0, none⟩ : Addr)) 1 1]) w5 fun p34 l34 c34 w6 =>
  nn x0 fun a35 =>
  st (a35.add 2) (.slice p34 l34 c34) w6 fun w7 =>
  nn x0 fun a36 =>
  ldI .u32 (a36.add 1) w7 fun n37 =>
  call Try.prog 30 #[.int .i64 ((l4 : Int)), .int .u32 n37] w7 fun v38 w8 =>
  asI .u64 v38 fun n39 =>
  R (.int .u64 n39) w8))
@[irreducible] def tenonref02_Arena_Put_ann : Ann := .seq .none (.seq .none (.seq .none (.seq .none (.seq .none (.seq (.draw [[], [], [1], [1, 2], [1, 2, 3], [], [], [6], [6, 7], [6, 7, 8], [5, 6, 7, 8, 9], [5, 6, 7, 8, 9, 10], [1, 2, 3, 4, 5, 6, 7, 8, 9, 10, 11], [0, 1, 2, 3, 4, 5, 6, 7, 8, 9, 10, 11, 12], [0, 1, 2, 3, 4, 5, 6, 7, 8, 9, 10, 11, 12, 13], [0, 1, 2, 3, 4, 5, 6, 7, 8, 9, 10, 11, 12, 13, 14]] (ol [0, 1, 2, 3, 4, 5, 6, 7, 8, 9, 10, 11, 12, 13, 14, 15] .nil)) .none)))))
theorem tenonref02_Arena_Put_call {x0 : Option Addr} {x1 : Int} {R : Value → World → Prop} {w : World} (h : tenonref02_Arena_Put x0 x1 R w) : call Try.prog 32 #[.pointer x0, .int .i64 x1] w R :=
  call_of_fnW plain mixed Try.func32 tenonref02_Arena_Put_ann (Eq.mp (by kernel_rfl : tenonref02_Arena_Put x0 x1 R w = fnW Try.prog Try.f32 tenonref02_Arena_Put_ann #[.pointer x0, .int .i64 x1] R w) h)

def tenonref02_Arena_Drop (x0 : Option Addr) (x1 : Int) (R : Value → World → Prop) (w : World) : Prop :=
  nn x0 fun a1 =>
  ldS (a1.add 2) w fun p2 l2 c2 =>
  idx p2 l2 x1 3 fun a3 =>
  st (a3.add 0) (.int .i64 0) w fun w1 =>
  nn x0 fun a4 =>
  ldS (a4.add 2) w1 fun p5 l5 c5 =>
  idx p5 l5 x1 3 fun a6 =>
  ldI .u32 (a6.add 1) w1 fun n7 =>
  br ((n7 : Int) == 4294967295) (
  nn x0 fun a8 =>
  ldS (a8.add 2) w1 fun p9 l9 c9 =>
  idx p9 l9 x1 3 fun a10 =>
  st (a10.add 2) (.int .i64 2) w1 fun w2 =>
  R (.tuple #[]) w2) (
  nn x0 fun a11 =>
  ldS (a11.add 2) w1 fun p12 l12 c12 =>
  idx p12 l12 x1 3 fun a13 =>
  st (a13.add 2) (.int .i64 0) w1 fun w3 =>
  nn x0 fun a14 =>
  ldS (a14.add 2) w3 fun p15 l15 c15 =>
  idx p15 l15 x1 3 fun a16 =>
  ldI .u32 (a16.add 1) w3 fun n17 =>
  arith .u32 (n17 + 1) fun n18 =>
  idx p15 l15 x1 3 fun a19 =>
  st (a19.add 1) (.int .u32 n18) w3 fun w4 =>
  nn x0 fun a20 =>
  ldS (a20.add 3) w4 fun p21 l21 c21 =>
  new #[.int .i64 x1] 3 w4 fun k22 w5 =>
  runsS Try.prog (Builtin.append_ #[79, 79] 79 #[.slice p21 l21 c21, .slice (some (⟨k22, 0, none⟩ : Addr)) 1 1]) w5 fun p23 l23 c23 w6 =>
  nn x0 fun a24 =>
  st (a24.add 3) (.slice p23 l23 c23) w6 fun w7 =>
  R (.tuple #[]) w7)
@[irreducible] def tenonref02_Arena_Drop_ann : Ann := .none
theorem tenonref02_Arena_Drop_call {x0 : Option Addr} {x1 : Int} {R : Value → World → Prop} {w : World} (h : tenonref02_Arena_Drop x0 x1 R w) : call Try.prog 33 #[.pointer x0, .int .i64 x1] w R :=
  call_of_fnW plain mixed Try.func33 tenonref02_Arena_Drop_ann (Eq.mp (by kernel_rfl : tenonref02_Arena_Drop x0 x1 R w = fnW Try.prog Try.f33 tenonref02_Arena_Drop_ann #[.pointer x0, .int .i64 x1] R w) h)

def tenonref02_Arena_At (x0 : Option Addr) (x1 : Int) (R : Value → World → Prop) (w : World) : Prop :=
  ∃ I1 : Int → World → Nat → Prop, (∃ m2, I1 0 w m2) ∧
  ∀ (u3 : Nat → Value) (n4 : Int) (w1 : World) (m5 : Nat), I1 n4 w1 m5 →
  nn x0 fun a6 =>
  ldS (a6.add 2) w1 fun p7 l7 c7 =>
  br (decide ((n4 : Int) < (l7 : Int))) (
  nn x0 fun a8 =>
  ldS (a8.add 2) w1 fun p9 l9 c9 =>
  idx p9 l9 n4 3 fun a10 =>
  ldI .i64 (a10.add 2) w1 fun n11 =>
  br ((n11 : Int) == 1) (
  nn x0 fun a12 =>
  ldS (a12.add 2) w1 fun p13 l13 c13 =>
  idx p13 l13 n4 3 fun a14 =>
  ldI .u32 (a14.add 1) w1 fun n15 =>
  call Try.prog 30 #[.int .i64 n4, .int .u32 n15] w1 fun v16 w2 =>
  asI .u64 v16 fun n17 =>
  br ((n17 : Int) == x1) (
  R (.int .i64 n4) w2) (
  arith .i64 (n4 + 1) fun n18 =>
  ∃ m19, m19 < m5 ∧ I1 n18 w2 m19)) (
  arith .i64 (n4 + 1) fun n20 =>
  ∃ m21, m21 < m5 ∧ I1 n20 w1 m21)) (
  R (.int .i64 (-1)) w1)
@[irreducible] def tenonref02_Arena_At_ann : Ann := .seq .none (.seq (.seq .none (.one (.loop [(5, .int .i64)] .none))) .none)
theorem tenonref02_Arena_At_call {x0 : Option Addr} {x1 : Int} {R : Value → World → Prop} {w : World} (h : tenonref02_Arena_At x0 x1 R w) : call Try.prog 34 #[.pointer x0, .int .u64 x1] w R :=
  call_of_fnW plain mixed Try.func34 tenonref02_Arena_At_ann (Eq.mp (by kernel_rfl : tenonref02_Arena_At x0 x1 R w = fnW Try.prog Try.f34 tenonref02_Arena_At_ann #[.pointer x0, .int .u64 x1] R w) h)

def arena_handle (x0 : Int) (x1 : Int) (R : Value → World → Prop) (w : World) : Prop :=
  arith .u64 x1 fun n1 =>
  shl .u64 n1 32 fun n2 =>
  arith .i64 (x0 + 1) fun n3 =>
  arith .u64 n3 fun n4 =>
  R (.int .u64 (bitw .or .u64 n2 n4)) w
@[irreducible] def arena_handle_ann : Ann := .none
theorem arena_handle_call {x0 : Int} {x1 : Int} {R : Value → World → Prop} {w : World} (h : arena_handle x0 x1 R w) : call Try.prog 35 #[.int .i64 x0, .int .u32 x1] w R :=
  call_of_fnW plain mixed Try.func35 arena_handle_ann (Eq.mp (by kernel_rfl : arena_handle x0 x1 R w = fnW Try.prog Try.f35 arena_handle_ann #[.int .i64 x0, .int .u32 x1] R w) h)

def arena_Arena_Get (x0 : Option Addr) (x1 : Int) (R : Value → World → Prop) (w : World) : Prop :=
  call Try.prog 37 #[.pointer x0, .int .u64 x1] w fun v1 w1 =>
  ∃ (p2 : Option Addr) (n3 : Int),
  v1 = .tuple #[.pointer p2, .int .i64 n3] ∧
  br p2.isNone (
  R (.tuple #[.pointer none, .int .i64 2]) w1) (
  nn p2 fun a4 =>
  ldP (a4.add 0) w1 fun p5 =>
  R (.tuple #[.pointer p5, .int .i64 0]) w1)
@[irreducible] def arena_Arena_Get_ann : Ann := .none
theorem arena_Arena_Get_call {x0 : Option Addr} {x1 : Int} {R : Value → World → Prop} {w : World} (h : arena_Arena_Get x0 x1 R w) : call Try.prog 36 #[.pointer x0, .int .u64 x1] w R :=
  call_of_fnW plain mixed Try.func36 arena_Arena_Get_ann (Eq.mp (by kernel_rfl : arena_Arena_Get x0 x1 R w = fnW Try.prog Try.f36 arena_Arena_Get_ann #[.pointer x0, .int .u64 x1] R w) h)

def arena_Arena_find (x0 : Option Addr) (x1 : Int) (R : Value → World → Prop) (w : World) : Prop :=
  call Try.prog 40 #[.int .u64 x1] w fun v1 w1 =>
  ∃ (n2 : Int) (n3 : Int),
  v1 = .tuple #[.int .i64 n2, .int .u32 n3] ∧
  br x0.isNone (
  R (.tuple #[.pointer none, .int .i64 0]) w1) (
  br (decide ((n2 : Int) < 0)) (
  R (.tuple #[.pointer none, .int .i64 0]) w1) (
  nn x0 fun a4 =>
  ldS (a4.add 2) w1 fun p5 l5 c5 =>
  br (decide ((n2 : Int) ≥ (l5 : Int))) (
  R (.tuple #[.pointer none, .int .i64 0]) w1) (
  nn x0 fun a6 =>
  ldS (a6.add 2) w1 fun p7 l7 c7 =>
  idx p7 l7 n2 3 fun a8 =>
  ldB (a8.add 2) w1 fun b9 =>
  br (!b9) (
  R (.tuple #[.pointer none, .int .i64 0]) w1) (
  ldI .u32 (a8.add 1) w1 fun n10 =>
  br ((n10 : Int) != n3) (
  R (.tuple #[.pointer none, .int .i64 0]) w1) (
  R (.tuple #[.pointer (some a8), .int .i64 n2]) w1)))))
@[irreducible] def arena_Arena_find_ann : Ann := .none
theorem arena_Arena_find_call {x0 : Option Addr} {x1 : Int} {R : Value → World → Prop} {w : World} (h : arena_Arena_find x0 x1 R w) : call Try.prog 37 #[.pointer x0, .int .u64 x1] w R :=
  call_of_fnW plain mixed Try.func37 arena_Arena_find_ann (Eq.mp (by kernel_rfl : arena_Arena_find x0 x1 R w = fnW Try.prog Try.f37 arena_Arena_find_ann #[.pointer x0, .int .u64 x1] R w) h)

def weak_Table_Blocks_1 (x0 : Fn) (y0 z0 : Array Value) (x1 : Addr) (R : Value → World → Prop) (w : World) : Prop :=
  new #[.func x0 y0 z0] 61 w fun k1 w1 =>
  ldP x1 w1 fun p2 =>
  br p2.isNone (
  R (.tuple #[]) w1) (
  ldP x1 w1 fun p3 =>
  nn p3 fun a4 =>
  ldP (a4.add 0) w1 fun p5 =>
  call Try.prog 39 #[.pointer p5] w1 fun v6 w2 =>
  asF v6 fun f7 q7 t7 =>
  rangeW Try.prog (.func f7 q7 t7) 2 (fun xs8 N9 J10 T11 w3 => ∃ (n12 : Int) (p13 : Option Addr), xs8 = #[.int .u64 n12, .pointer p13] ∧
  T11 w3 fun w4 =>
  ldF (⟨k1, 0, none⟩ : Addr) w4.drew fun f14 q14 t14 =>
  nn p13 fun a15 =>
  ldI .u64 (a15.add 0) w4.drew fun n16 =>
  callV Try.prog f14 q14 t14 #[.int .u64 n12, .int .u64 n16] w4.drew fun v17 w5 =>
  asB v17 fun b18 =>
  br (!b18) (
  J10 .ret w5) (
  N9 w5)) (fun D19 w6 =>
  shutD D19 w6 fun w7 =>
  R (.tuple #[]) w7) (fun D20 c21 w8 => jmp c21 (
  shutD D20 w8 fun w9 =>
  R (.tuple #[]) w9) []) w2)
@[irreducible] def weak_Table_Blocks_1_ann : Ann := .seq .none (.seq .none (.seq .none (.one (.range [.int .u64, .ptr] .none (.one (.seq (.draw [[], [], [], [2], [2, 3], [2, 3, 4], [0, 1, 2, 3, 4, 5], [0, 1, 2, 3, 4, 5, 6]] (ol [0, 1, 2, 3, 4, 5, 6, 7] .nil)) .none))))))
theorem weak_Table_Blocks_1_call {x0 : Fn} {y0 z0 : Array Value} {x1 : Addr} {R : Value → World → Prop} {w : World} (h : weak_Table_Blocks_1 x0 y0 z0 x1 R w) : call Try.prog 38 #[.func x0 y0 z0, .pointer (some x1)] w R :=
  call_of_fnW plain mixed Try.func38 weak_Table_Blocks_1_ann (Eq.mp (by kernel_rfl : weak_Table_Blocks_1 x0 y0 z0 x1 R w = fnW Try.prog Try.f38 weak_Table_Blocks_1_ann #[.func x0 y0 z0, .pointer (some x1)] R w) h)

def arena_Arena_All (x0 : Option Addr) (R : Value → World → Prop) (w : World) : Prop :=
  new #[.pointer x0] 62 w fun k1 w1 =>
  R (.func (.func 41) #[] #[.pointer (some (⟨k1, 0, none⟩ : Addr))]) w1
@[irreducible] def arena_Arena_All_ann : Ann := .none
theorem arena_Arena_All_call {x0 : Option Addr} {R : Value → World → Prop} {w : World} (h : arena_Arena_All x0 R w) : call Try.prog 39 #[.pointer x0] w R :=
  call_of_fnW plain mixed Try.func39 arena_Arena_All_ann (Eq.mp (by kernel_rfl : arena_Arena_All x0 R w = fnW Try.prog Try.f39 arena_Arena_All_ann #[.pointer x0] R w) h)

def arena_Split (x0 : Int) (R : Value → World → Prop) (w : World) : Prop :=
  arith .u32 x0 fun n1 =>
  arith .i64 n1 fun n2 =>
  arith .i64 (n2 - 1) fun n3 =>
  shr .u64 x0 32 fun n4 =>
  arith .u32 n4 fun n5 =>
  R (.tuple #[.int .i64 n3, .int .u32 n5]) w
@[irreducible] def arena_Split_ann : Ann := .none
theorem arena_Split_call {x0 : Int} {R : Value → World → Prop} {w : World} (h : arena_Split x0 R w) : call Try.prog 40 #[.int .u64 x0] w R :=
  call_of_fnW plain mixed Try.func40 arena_Split_ann (Eq.mp (by kernel_rfl : arena_Split x0 R w = fnW Try.prog Try.f40 arena_Split_ann #[.int .u64 x0] R w) h)

def arena_Arena_All_1 (x0 : Fn) (y0 z0 : Array Value) (x1 : Addr) (R : Value → World → Prop) (w : World) : Prop :=
  ldP x1 w fun p1 =>
  br p1.isNone (
  R (.tuple #[]) w) (
  new #[] 94 w fun k2 w1 =>
  ldP x1 w1 fun p3 =>
  nn p3 fun a4 =>
  ldS (a4.add 2) w1 fun p5 l5 c5 =>
  runsS Try.prog (Builtin.append_ #[88, 88] 88 #[.slice (some (⟨k2, 0, none⟩ : Addr)) 0 0, .slice p5 l5 c5]) w1 fun p6 l6 c6 w2 =>
  ∃ I7 : Int → World → Nat → Prop, (∃ m8, I7 0 w2 m8) ∧
  ∀ (u9 : Nat → Value) (n10 : Int) (w3 : World) (m11 : Nat), I7 n10 w3 m11 →
  br (decide ((n10 : Int) < (l6 : Int))) (
  idx p6 l6 n10 3 fun a12 =>
  ldA a12 3 w3 fun g13 =>
  new #[.pointer none, .int .u32 0, .bool false] 94 w3 fun k14 w4 =>
  stA Try.prog (⟨k14, 0, none⟩ : Addr) 3 g13 w4 fun w5 =>
  ldB ((⟨k14, 0, none⟩ : Addr).add 2) w5.drew fun b15 =>
  br b15 (
  ldI .u32 ((⟨k14, 0, none⟩ : Addr).add 1) w5.drew fun n16 =>
  ldP ((⟨k14, 0, none⟩ : Addr).add 0) w5.drew fun p17 =>
  call Try.prog 35 #[.int .i64 n10, .int .u32 n16] w5.drew fun v18 w6 =>
  asI .u64 v18 fun n19 =>
  w6.cell? ((⟨k14, 0, none⟩ : Addr).add 0) = some (.pointer p17) ∧
  callV Try.prog x0 y0 z0 #[.int .u64 n19, .pointer p17] w6 fun v20 w7 =>
  asB v20 fun b21 =>
  br (!b21) (
  R (.tuple #[]) w7) (
  arith .i64 (n10 + 1) fun n22 =>
  ∃ m23, m23 < m11 ∧ I7 n22 w7 m23)) (
  arith .i64 (n10 + 1) fun n24 =>
  ∃ m25, m25 < m11 ∧ I7 n24 w5.drew m25)) (
  R (.tuple #[]) w3))
@[irreducible] def arena_Arena_All_1_ann : Ann := .seq .none (.seq .none (.one (.loop [(14, .int .i64)] (.seq .none (.seq .none (.seq (.one (.seq .none (.seq (.draw [[], [0], [0, 1], [0, 1, 2], [0, 1, 2], [0, 1, 2], [0, 1, 2, 5], [0, 1, 2, 4, 5, 6], [0, 1, 2], [0, 1, 2, 8], [0, 1, 2, 3, 4, 5, 6, 7, 8, 9], [0, 1, 2, 3, 4, 5, 6, 7, 8, 9, 10], [0, 1, 2, 3, 4, 5, 6, 7, 8, 9, 10, 11]] (ol [0, 1, 2, 3, 4, 5, 6, 8, 9, 7, 10, 11, 12] .nil)) .none))) .none))))))
theorem arena_Arena_All_1_call {x0 : Fn} {y0 z0 : Array Value} {x1 : Addr} {R : Value → World → Prop} {w : World} (h : arena_Arena_All_1 x0 y0 z0 x1 R w) : call Try.prog 41 #[.func x0 y0 z0, .pointer (some x1)] w R :=
  call_of_fnW plain mixed Try.func41 arena_Arena_All_1_ann (Eq.mp (by kernel_rfl : arena_Arena_All_1 x0 y0 z0 x1 R w = fnW Try.prog Try.f41 arena_Arena_All_1_ann #[.func x0 y0 z0, .pointer (some x1)] R w) h)

end Go.Proofs.Ytiogdefiokmmkaa
