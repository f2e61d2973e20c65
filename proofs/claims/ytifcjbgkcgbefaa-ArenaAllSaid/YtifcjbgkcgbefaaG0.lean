/- The shallow forms of the functions of the translation, printed by a program of this repository, each proved sound. No conditions. -/
import Derived.Test.YtifcjbgkcgbefaaChecked
import Derived.Test.YtifcjbgkcgbefaaSp5
import Derived.Eval
set_option linter.unusedVariables false
namespace Go.Proofs.Ytifcjbgkcgbefaa
open Go.Sp
theorem plain : Plain Try.prog := by
  have h : (Try.prog.funcs.toList.all fun fn => !(fn.name == "runtime.NumGoroutine")) = true := by kernel_rfl
  intro f fn hf
  have := List.all_eq_true.1 h fn (by simpa using Array.mem_of_getElem? hf)
  simpa using this
theorem mixed : Try.prog.follows .mixedOrders = true := Checked.mixed Try.checked
abbrev T_api_Errno : Nat := 24
abbrev T_tenonlaw02_Act : Nat := 32
abbrev T_tenonlaw02_Pair : Nat := 52
abbrev T_tenonref02_Spot : Nat := 61
abbrev T_tenonref02_Arena : Nat := 64
abbrev T_arena_Arena_int_ : Nat := 70
abbrev T_arena_spot_int_ : Nat := 72
abbrev T_iter_Seq2_uint64_int_ : Nat := 80
abbrev T_int64 : Nat := 2
abbrev T_int : Nat := 3
abbrev T_bool : Nat := 4
abbrev T_uint8 : Nat := 5
abbrev T_string : Nat := 9
abbrev T_uintptr : Nat := 12
abbrev T_int32 : Nat := 21
abbrev T_sl_tenonlaw02_Act : Nat := 22
abbrev T_uint32 : Nat := 28
abbrev T_sl_uint64 : Nat := 29
abbrev T_uint64 : Nat := 30
abbrev T_uint : Nat := 41
abbrev T_sl_int : Nat := 43
abbrev T_sl_tenonref02_Spot : Nat := 62
abbrev T_sl_arena_spot_int : Nat := 68
abbrev T_ptr_uint8 : Nat := 91
abbrev fn_tenonlaw02_ArenaOnce : Nat := 3
abbrev fn_tenonlaw02_ArenaSplits : Nat := 4
abbrev fn_tenonlaw02_ArenaFull : Nat := 5
abbrev fn_tenonlaw02_ArenaPlays : Nat := 6
abbrev fn_tenonlaw02_ArenaStale : Nat := 7
abbrev fn_tenonlaw02_ArenaAll : Nat := 8
abbrev fn_tenonlaw02_ArenaNil : Nat := 9
abbrev fn_arena_New : Nat := 10
abbrev fn_tenonref01_Pick : Nat := 11
abbrev fn_arena_Arena_Put : Nat := 12
abbrev fn_arena_Arena_Drop : Nat := 13
abbrev fn_tenonlaw02_awake : Nat := 14
abbrev fn_arena_Split : Nat := 15
abbrev fn_arena_Arena_Len : Nat := 16
abbrev fn_tenonref02_New : Nat := 17
abbrev fn_tenonlaw02_begun : Nat := 18
abbrev fn_tenonlaw02_Pair_do : Nat := 19
abbrev fn_tenonref02_Arena_All : Nat := 20
abbrev fn_arena_Arena_Get : Nat := 21
abbrev fn_arena_Arena_Set : Nat := 22
abbrev fn_tenonlaw02_handles : Nat := 23
abbrev fn_tenonref01_SameLongs : Nat := 24
abbrev fn_tenonref02_Arena_At : Nat := 25
abbrev fn_arena_handle : Nat := 26
abbrev fn_arena_Arena_find : Nat := 27
abbrev fn_tenonref02_Arena_Put : Nat := 28
abbrev fn_tenonref02_Arena_Drop : Nat := 29
abbrev fn_tenonref02_Handle : Nat := 30
abbrev fn_arena_Arena_All : Nat := 31
abbrev fn_arena_Arena_All_1 : Nat := 32

def tenonlaw02_ArenaOnce (x0 : Int) (x1 : Int) (x2 : Option Addr) (y2 z2 : Nat) (R : Value → World → Prop) (w : World) : Prop :=
  call Try.prog 11 #[.int .i64 x0, .int .i64 5] w fun v1 w1 =>
  asI .i64 v1 fun n2 =>
  arith .i64 (1 + n2) fun n3 =>
  arith .u32 x1 fun n4 =>
  arith .u32 (4294967295 - n4) fun n5 =>
  call Try.prog 10 #[.int .i64 n3, .int .u32 n5] w1 fun v6 w2 =>
  ∃ (p7 : Option Addr) (n8 : Int),
  v6 = .tuple #[.pointer p7, .int .i64 n8] ∧
  br ((n8 : Int) != 0) (
  R (.bool false) w2) (
  ∃ I9 : Option Addr → Nat → Nat → Int → World → Nat → Prop, (∃ m10, I9 none 0 0 0 w2 m10) ∧
  ∀ (u11 : Nat → Value) (p12 : Option Addr) (l12 c12 : Nat) (n13 : Int) (w3 : World) (m14 : Nat), I9 p12 l12 c12 n13 w3 m14 →
  br (decide ((n13 : Int) < (y2 : Int))) (
  br (decide ((n13 : Int) < 200)) (
  idx x2 y2 n13 4 fun a15 =>
  ldI .i64 (a15.add 0) w3 fun n16 =>
  call Try.prog 11 #[.int .i64 n16, .int .i64 2] w3 fun v17 w4 =>
  asI .i64 v17 fun n18 =>
  br ((n18 : Int) == 0) (
  call Try.prog 12 #[.pointer p7, .int .i64 n13] w4 fun v19 w5 =>
  ∃ (n20 : Int) (n21 : Int),
  v19 = .tuple #[.int .u64 n20, .int .i64 n21] ∧
  br ((n21 : Int) == 0) (
  ∃ I22 : Int → World → Nat → Prop, (∃ m23, I22 0 w5 m23) ∧
  ∀ (u24 : Nat → Value) (n25 : Int) (w6 : World) (m26 : Nat), I22 n25 w6 m26 →
  br (decide ((n25 : Int) < (l12 : Int))) (
  idx p12 l12 n25 1 fun a27 =>
  ldI .u64 a27 w6 fun n28 =>
  br ((n28 : Int) == n20) (
  R (.bool false) w6) (
  arith .i64 (n25 + 1) fun n29 =>
  ∃ m30, m30 < m26 ∧ I22 n29 w6 m30)) (
  new #[.int .u64 n20] 30 w6 fun k31 w7 =>
  runsS Try.prog (Builtin.append_ #[29, 29] 29 #[.slice p12 l12 c12, .slice (some (⟨k31, 0, none⟩ : Addr)) 1 1]) w7 fun p32 l32 c32 w8 =>
  arith .i64 (n13 + 1) fun n33 =>
  ∃ m34, m34 < m14 ∧ I9 p32 l32 c32 n33 w8 m34)) (
  arith .i64 (n13 + 1) fun n35 =>
  ∃ m36, m36 < m14 ∧ I9 p12 l12 c12 n35 w5 m36)) (
  br (decide ((l12 : Int) > 0)) (
  idx x2 y2 n13 4 fun a37 =>
  ldI .i64 (a37.add 1) w4 fun n38 =>
  call Try.prog 11 #[.int .i64 n38, .int .i64 ((l12 : Int))] w4 fun v39 w9 =>
  asI .i64 v39 fun n40 =>
  idx p12 l12 n40 1 fun a41 =>
  ldI .u64 a41 w9 fun n42 =>
  call Try.prog 13 #[.pointer p7, .int .u64 n42] w9 fun v43 w10 =>
  ∃ (n44 : Int) (n45 : Int),
  v43 = .tuple #[.int .i64 n44, .int .i64 n45] ∧
  arith .i64 (n13 + 1) fun n46 =>
  ∃ m47, m47 < m14 ∧ I9 p12 l12 c12 n46 w10 m47) (
  arith .i64 (n13 + 1) fun n48 =>
  ∃ m49, m49 < m14 ∧ I9 p12 l12 c12 n48 w4 m49))) (
  call Try.prog 14 #[] w3 fun v50 w11 =>
  asB v50 fun b51 =>
  R (.bool b51) w11)) (
  call Try.prog 14 #[] w3 fun v52 w12 =>
  asB v52 fun b53 =>
  R (.bool b53) w12))
@[irreducible] def tenonlaw02_ArenaOnce_ann : Ann := .seq .none (.seq .none (.seq .none (.seq .none (.seq (.seq .none (.one (.loop [(9, .slice), (10, .int .i64)] (.seq .none (.seq (.one (.seq .none (.seq (.seq .none (.seq .none (.seq (.seq (.seq .none (.one (.loop [(13, .int .i64)] .none))) .none) .none))) .none))) .none))))) .none))))
theorem tenonlaw02_ArenaOnce_call {x0 : Int} {x1 : Int} {x2 : Option Addr} {y2 z2 : Nat} {R : Value → World → Prop} {w : World} (h : tenonlaw02_ArenaOnce x0 x1 x2 y2 z2 R w) : call Try.prog 3 #[.int .i64 x0, .int .u8 x1, .slice x2 y2 z2] w R :=
  call_of_fnW plain mixed Try.func3 tenonlaw02_ArenaOnce_ann (Eq.mp (by kernel_rfl : tenonlaw02_ArenaOnce x0 x1 x2 y2 z2 R w = fnW Try.prog Try.f3 tenonlaw02_ArenaOnce_ann #[.int .i64 x0, .int .u8 x1, .slice x2 y2 z2] R w) h)

def tenonlaw02_ArenaSplits (x0 : Int) (R : Value → World → Prop) (w : World) : Prop :=
  call Try.prog 15 #[.int .u64 x0] w fun v1 w1 =>
  ∃ (n2 : Int) (n3 : Int),
  v1 = .tuple #[.int .i64 n2, .int .u32 n3] ∧
  arith .u64 n3 fun n4 =>
  shl .u64 n4 32 fun n5 =>
  arith .i64 (n2 + 1) fun n6 =>
  arith .u32 n6 fun n7 =>
  arith .u64 n7 fun n8 =>
  br ((bitw .or .u64 n5 n8 : Int) == x0) (
  br (decide ((n2 : Int) ≥ (-1))) (
  br (decide ((n2 : Int) < 4294967296)) (
  call Try.prog 14 #[] w1 fun v9 w2 =>
  asB v9 fun b10 =>
  R (.bool b10) w2) (
  R (.bool false) w1)) (
  R (.bool false) w1)) (
  R (.bool false) w1)
@[irreducible] def tenonlaw02_ArenaSplits_ann : Ann := .none
theorem tenonlaw02_ArenaSplits_call {x0 : Int} {R : Value → World → Prop} {w : World} (h : tenonlaw02_ArenaSplits x0 R w) : call Try.prog 4 #[.int .u64 x0] w R :=
  call_of_fnW plain mixed Try.func4 tenonlaw02_ArenaSplits_ann (Eq.mp (by kernel_rfl : tenonlaw02_ArenaSplits x0 R w = fnW Try.prog Try.f4 tenonlaw02_ArenaSplits_ann #[.int .u64 x0] R w) h)

def tenonlaw02_ArenaFull (x0 : Int) (x1 : Option Addr) (y1 z1 : Nat) (R : Value → World → Prop) (w : World) : Prop :=
  call Try.prog 11 #[.int .i64 x0, .int .i64 60] w fun v1 w1 =>
  asI .i64 v1 fun n2 =>
  arith .i64 (1 + n2) fun n3 =>
  call Try.prog 10 #[.int .i64 n3, .int .u32 1] w1 fun v4 w2 =>
  ∃ (p5 : Option Addr) (n6 : Int),
  v4 = .tuple #[.pointer p5, .int .i64 n6] ∧
  br ((n6 : Int) != 0) (
  R (.bool false) w2) (
  ∃ I7 : Option Addr → Nat → Nat → Int → World → Nat → Prop, (∃ m8, I7 none 0 0 0 w2 m8) ∧
  ∀ (u9 : Nat → Value) (p10 : Option Addr) (l10 c10 : Nat) (n11 : Int) (w3 : World) (m12 : Nat), I7 p10 l10 c10 n11 w3 m12 →
  br (decide ((n11 : Int) < n3)) (
  call Try.prog 12 #[.pointer p5, .int .i64 n11] w3 fun v13 w4 =>
  ∃ (n14 : Int) (n15 : Int),
  v13 = .tuple #[.int .u64 n14, .int .i64 n15] ∧
  br ((n15 : Int) != 0) (
  R (.bool false) w4) (
  new #[.int .u64 n14] 30 w4 fun k16 w5 =>
  runsS Try.prog (Builtin.append_ #[29, 29] 29 #[.slice p10 l10 c10, .slice (some (⟨k16, 0, none⟩ : Addr)) 1 1]) w5 fun p17 l17 c17 w6 =>
  arith .i64 (n11 + 1) fun n18 =>
  ∃ m19, m19 < m12 ∧ I7 p17 l17 c17 n18 w6 m19)) (
  call Try.prog 12 #[.pointer p5, .int .i64 0] w3 fun v20 w7 =>
  ∃ (n21 : Int) (n22 : Int),
  v20 = .tuple #[.int .u64 n21, .int .i64 n22] ∧
  br ((n22 : Int) != 3) (
  R (.bool false) w7) (
  ∃ I23 : Int → World → Nat → Prop, (∃ m24, I23 0 w7 m24) ∧
  ∀ (u25 : Nat → Value) (n26 : Int) (w8 : World) (m27 : Nat), I23 n26 w8 m27 →
  br (decide ((n26 : Int) < (y1 : Int))) (
  br (decide ((n26 : Int) < 100)) (
  idx x1 y1 n26 1 fun a28 =>
  ldI .i64 a28 w8 fun n29 =>
  call Try.prog 11 #[.int .i64 n29, .int .i64 n3] w8 fun v30 w9 =>
  asI .i64 v30 fun n31 =>
  idx p10 l10 n31 1 fun a32 =>
  ldI .u64 a32 w9 fun n33 =>
  call Try.prog 13 #[.pointer p5, .int .u64 n33] w9 fun v34 w10 =>
  ∃ (n35 : Int) (n36 : Int),
  v34 = .tuple #[.int .i64 n35, .int .i64 n36] ∧
  call Try.prog 12 #[.pointer p5, .int .i64 n35] w10 fun v37 w11 =>
  ∃ (n38 : Int) (n39 : Int),
  v37 = .tuple #[.int .u64 n38, .int .i64 n39] ∧
  call Try.prog 12 #[.pointer p5, .int .i64 0] w11 fun v40 w12 =>
  ∃ (n41 : Int) (n42 : Int),
  v40 = .tuple #[.int .u64 n41, .int .i64 n42] ∧
  br ((n36 : Int) != 0) (
  R (.bool false) w12) (
  br ((n39 : Int) != 0) (
  R (.bool false) w12) (
  br ((n42 : Int) != 3) (
  R (.bool false) w12) (
  call Try.prog 16 #[.pointer p5] w12 fun v43 w13 =>
  asI .i64 v43 fun n44 =>
  br ((n44 : Int) != n3) (
  R (.bool false) w13) (
  arith .u32 n38 fun n45 =>
  idx p10 l10 n31 1 fun a46 =>
  ldI .u64 a46 w13 fun n47 =>
  arith .u32 n47 fun n48 =>
  br ((n45 : Int) != n48) (
  R (.bool false) w13) (
  idx p10 l10 n31 1 fun a49 =>
  st a49 (.int .u64 n38) w13 fun w14 =>
  arith .i64 (n26 + 1) fun n50 =>
  ∃ m51, m51 < m27 ∧ I23 n50 w14 m51)))))) (
  call Try.prog 14 #[] w8 fun v52 w15 =>
  asB v52 fun b53 =>
  R (.bool b53) w15)) (
  call Try.prog 14 #[] w8 fun v54 w16 =>
  asB v54 fun b55 =>
  R (.bool b55) w16))))
@[irreducible] def tenonlaw02_ArenaFull_ann : Ann := .seq .none (.seq .none (.seq .none (.seq .none (.seq .none (.seq (.seq .none (.one (.loop [(8, .slice), (9, .int .i64)] .none))) (.seq .none (.seq (.seq .none (.one (.loop [(14, .int .i64)] .none))) .none)))))))
theorem tenonlaw02_ArenaFull_call {x0 : Int} {x1 : Option Addr} {y1 z1 : Nat} {R : Value → World → Prop} {w : World} (h : tenonlaw02_ArenaFull x0 x1 y1 z1 R w) : call Try.prog 5 #[.int .i64 x0, .slice x1 y1 z1] w R :=
  call_of_fnW plain mixed Try.func5 tenonlaw02_ArenaFull_ann (Eq.mp (by kernel_rfl : tenonlaw02_ArenaFull x0 x1 y1 z1 R w = fnW Try.prog Try.f5 tenonlaw02_ArenaFull_ann #[.int .i64 x0, .slice x1 y1 z1] R w) h)

def tenonlaw02_ArenaPlays (x0 : Int) (x1 : Int) (x2 : Option Addr) (y2 z2 : Nat) (R : Value → World → Prop) (w : World) : Prop :=
  call Try.prog 10 #[.int .i64 x0, .int .u32 x1] w fun v1 w1 =>
  ∃ (p2 : Option Addr) (n3 : Int),
  v1 = .tuple #[.pointer p2, .int .i64 n3] ∧
  call Try.prog 17 #[.int .i64 x0, .int .u32 x1] w1 fun v4 w2 =>
  asP v4 fun p5 =>
  br p5.isNone (
  br ((n3 : Int) == 1) (
  br p2.isNone (
  call Try.prog 14 #[] w2 fun v6 w3 =>
  asB v6 fun b7 =>
  R (.bool b7) w3) (
  R (.bool false) w2)) (
  R (.bool false) w2)) (
  call Try.prog 18 #[.int .i64 x0, .int .u32 x1] w2 fun v8 w4 =>
  asP v8 fun p9 =>
  ∃ I10 : Int → World → Nat → Prop, (∃ m11, I10 0 w4 m11) ∧
  ∀ (u12 : Nat → Value) (n13 : Int) (w5 : World) (m14 : Nat), I10 n13 w5 m14 →
  br (decide ((n13 : Int) < (y2 : Int))) (
  br (decide ((n13 : Int) < 200)) (
  br (!p9.isNone) (
  idx x2 y2 n13 4 fun a15 =>
  ldA a15 4 w5.drew fun g16 =>
  call Try.prog 19 #[.pointer p9, .agg g16] w5.drew fun v17 w6 =>
  asB v17 fun b18 =>
  br (!b18) (
  R (.bool false) w6) (
  nn p9 fun a19 =>
  ldP (a19.add 0) w6 fun p20 =>
  nn p9 fun a21 =>
  ldP (a21.add 1) w6 fun p22 =>
  call Try.prog 16 #[.pointer p20] w6 fun v23 w7 =>
  asI .i64 v23 fun n24 =>
  w7.cell? (a21.add 1) = some (.pointer p22) ∧
  call Try.prog 20 #[.pointer p22] w7 fun v25 w8 =>
  asS v25 fun p26 l26 c26 =>
  br ((n24 : Int) != (l26 : Int)) (
  R (.bool false) w8) (
  arith .i64 (n13 + 1) fun n27 =>
  ∃ m28, m28 < m14 ∧ I10 n27 w8 m28))) (
  br (!p9.isNone) (
  br ((n3 : Int) == 0) (
  call Try.prog 14 #[] w5 fun v29 w9 =>
  asB v29 fun b30 =>
  R (.bool b30) w9) (
  R (.bool false) w5)) (
  R (.bool false) w5))) (
  br (!p9.isNone) (
  br ((n3 : Int) == 0) (
  call Try.prog 14 #[] w5 fun v31 w10 =>
  asB v31 fun b32 =>
  R (.bool b32) w10) (
  R (.bool false) w5)) (
  R (.bool false) w5))) (
  br (!p9.isNone) (
  br ((n3 : Int) == 0) (
  call Try.prog 14 #[] w5 fun v33 w11 =>
  asB v33 fun b34 =>
  R (.bool b34) w11) (
  R (.bool false) w5)) (
  R (.bool false) w5)))
@[irreducible] def tenonlaw02_ArenaPlays_ann : Ann := .seq .none (.seq .none (.seq .none (.seq .none (.seq (.seq .none (.one (.loop [(10, .int .i64)] (.seq .none (.seq (.one (.seq (.draw [[], [], [], [1, 2], [1, 2, 3], [0, 1, 2, 3, 4], [0, 1, 2, 3, 4, 5], [0, 1, 2, 3, 4, 5, 6], [0, 1, 2, 3, 4, 5, 6, 7], [0, 1, 2, 3, 4, 5, 6, 7, 8], [0, 1, 2, 3, 4, 5, 6, 7, 8, 9], [0, 1, 2, 3, 4, 5, 6, 7, 8, 9, 10], [0, 1, 2, 3, 4, 5, 6, 7, 8, 9, 10, 11], [0, 1, 2, 3, 4, 5, 6, 7], [0, 1, 2, 3, 4, 5, 6, 7, 13], [0, 1, 2, 3, 4, 5, 6, 7, 13, 14], [0, 1, 2, 3, 4, 5, 6, 7, 13, 14, 15], [0, 1, 2, 3, 4, 5, 6, 7, 8, 9, 10, 11, 12, 13, 14, 15, 16], [0, 1, 2, 3, 4, 5, 6, 7, 8, 9, 10, 11, 12, 13, 14, 15, 16, 17], [0, 1, 2, 3, 4, 5, 6, 7, 8, 9, 10, 11, 12, 13, 14, 15, 16, 17, 18], [0, 1, 2, 3, 4, 5, 6, 7, 8, 9, 10, 11, 12, 13, 14, 15, 16, 17, 18, 19]] (ol [0, 1, 2, 3, 4, 5, 6, 7, 8, 9, 10, 11, 13, 14, 15, 16, 12, 17, 18, 19, 20] .nil)) .none)) .none))))) .none))))
theorem tenonlaw02_ArenaPlays_call {x0 : Int} {x1 : Int} {x2 : Option Addr} {y2 z2 : Nat} {R : Value → World → Prop} {w : World} (h : tenonlaw02_ArenaPlays x0 x1 x2 y2 z2 R w) : call Try.prog 6 #[.int .i64 x0, .int .u32 x1, .slice x2 y2 z2] w R :=
  call_of_fnW plain mixed Try.func6 tenonlaw02_ArenaPlays_ann (Eq.mp (by kernel_rfl : tenonlaw02_ArenaPlays x0 x1 x2 y2 z2 R w = fnW Try.prog Try.f6 tenonlaw02_ArenaPlays_ann #[.int .i64 x0, .int .u32 x1, .slice x2 y2 z2] R w) h)

def tenonlaw02_ArenaStale (x0 : Int) (x1 : Option Addr) (y1 z1 : Nat) (x2 : Int) (R : Value → World → Prop) (w : World) : Prop :=
  call Try.prog 11 #[.int .i64 x0, .int .i64 9] w fun v1 w1 =>
  asI .i64 v1 fun n2 =>
  arith .i64 (1 + n2) fun n3 =>
  call Try.prog 10 #[.int .i64 n3, .int .u32 1] w1 fun v4 w2 =>
  ∃ (p5 : Option Addr) (n6 : Int),
  v4 = .tuple #[.pointer p5, .int .i64 n6] ∧
  br ((n6 : Int) != 0) (
  R (.bool false) w2) (
  ∃ J7 : Option Addr → Nat → Nat → Option Addr → Nat → Nat → World → Prop, (
  ∃ I8 : Option Addr → Nat → Nat → Option Addr → Nat → Nat → Int → World → Nat → Prop, (∃ m9, I8 none 0 0 none 0 0 0 w2 m9) ∧
  ∀ (u10 : Nat → Value) (p11 : Option Addr) (l11 c11 : Nat) (p12 : Option Addr) (l12 c12 : Nat) (n13 : Int) (w3 : World) (m14 : Nat), I8 p11 l11 c11 p12 l12 c12 n13 w3 m14 →
  br (decide ((n13 : Int) < (y1 : Int))) (
  br (decide ((n13 : Int) < 100)) (
  idx x1 y1 n13 4 fun a15 =>
  ldI .i64 (a15.add 0) w3 fun n16 =>
  call Try.prog 11 #[.int .i64 n16, .int .i64 2] w3 fun v17 w4 =>
  asI .i64 v17 fun n18 =>
  br ((n18 : Int) == 0) (
  call Try.prog 12 #[.pointer p5, .int .i64 n13] w4 fun v19 w5 =>
  ∃ (n20 : Int) (n21 : Int),
  v19 = .tuple #[.int .u64 n20, .int .i64 n21] ∧
  br ((n21 : Int) == 0) (
  new #[.int .u64 n20] 30 w5 fun k22 w6 =>
  runsS Try.prog (Builtin.append_ #[29, 29] 29 #[.slice p11 l11 c11, .slice (some (⟨k22, 0, none⟩ : Addr)) 1 1]) w6 fun p23 l23 c23 w7 =>
  arith .i64 (n13 + 1) fun n24 =>
  ∃ m25, m25 < m14 ∧ I8 p23 l23 c23 p12 l12 c12 n24 w7 m25) (
  arith .i64 (n13 + 1) fun n26 =>
  ∃ m27, m27 < m14 ∧ I8 p11 l11 c11 p12 l12 c12 n26 w5 m27)) (
  br (decide ((l11 : Int) > 0)) (
  idx x1 y1 n13 4 fun a28 =>
  ldI .i64 (a28.add 1) w4 fun n29 =>
  call Try.prog 11 #[.int .i64 n29, .int .i64 ((l11 : Int))] w4 fun v30 w8 =>
  asI .i64 v30 fun n31 =>
  idx p11 l11 n31 1 fun a32 =>
  ldI .u64 a32 w8 fun n33 =>
  call Try.prog 13 #[.pointer p5, .int .u64 n33] w8 fun v34 w9 =>
  ∃ (n35 : Int) (n36 : Int),
  v34 = .tuple #[.int .i64 n35, .int .i64 n36] ∧
  br ((n36 : Int) != 0) (
  R (.bool false) w9) (
  idx p11 l11 n31 1 fun a37 =>
  ldI .u64 a37 w9 fun n38 =>
  new #[.int .u64 n38] 30 w9 fun k39 w10 =>
  runsS Try.prog (Builtin.append_ #[29, 29] 29 #[.slice p12 l12 c12, .slice (some (⟨k39, 0, none⟩ : Addr)) 1 1]) w10 fun p40 l40 c40 w11 =>
  arith .i64 ((l11 : Int) - 1) fun n41 =>
  idx p11 l11 n41 1 fun a42 =>
  ldI .u64 a42 w11 fun n43 =>
  idx p11 l11 n31 1 fun a44 =>
  st a44 (.int .u64 n43) w11 fun w12 =>
  arith .i64 ((l11 : Int) - 1) fun n45 =>
  slc p11 c11 1 0 n45 fun p46 l46 c46 =>
  arith .i64 (n13 + 1) fun n47 =>
  ∃ m48, m48 < m14 ∧ I8 p46 l46 c46 p40 l40 c40 n47 w12 m48)) (
  arith .i64 (n13 + 1) fun n49 =>
  ∃ m50, m50 < m14 ∧ I8 p11 l11 c11 p12 l12 c12 n49 w4 m50))) (
  J7 p11 l11 c11 p12 l12 c12 w3)) (
  J7 p11 l11 c11 p12 l12 c12 w3)) ∧
  ∀ (u51 : Nat → Value) (p52 : Option Addr) (l52 c52 : Nat) (p53 : Option Addr) (l53 c53 : Nat) (w13 : World), J7 p52 l52 c52 p53 l53 c53 w13 →
  ∃ I54 : Int → World → Nat → Prop, (∃ m55, I54 0 w13 m55) ∧
  ∀ (u56 : Nat → Value) (n57 : Int) (w14 : World) (m58 : Nat), I54 n57 w14 m58 →
  br (decide ((n57 : Int) < (l53 : Int))) (
  idx p53 l53 n57 1 fun a59 =>
  ldI .u64 a59 w14 fun n60 =>
  call Try.prog 21 #[.pointer p5, .int .u64 n60] w14 fun v61 w15 =>
  ∃ (n62 : Int) (n63 : Int),
  v61 = .tuple #[.int .i64 n62, .int .i64 n63] ∧
  br ((n63 : Int) != 2) (
  R (.bool false) w15) (
  idx p53 l53 n57 1 fun a64 =>
  ldI .u64 a64 w15 fun n65 =>
  call Try.prog 22 #[.pointer p5, .int .u64 n65, .int .i64 1] w15 fun v66 w16 =>
  asI .i64 v66 fun n67 =>
  br ((n67 : Int) != 2) (
  R (.bool false) w16) (
  arith .i64 (n57 + 1) fun n68 =>
  ∃ m69, m69 < m58 ∧ I54 n68 w16 m69))) (
  ∃ I70 : Bool → Int → World → Nat → Prop, (∃ m71, I70 false 0 w14 m71) ∧
  ∀ (u72 : Nat → Value) (b73 : Bool) (n74 : Int) (w17 : World) (m75 : Nat), I70 b73 n74 w17 m75 →
  br (decide ((n74 : Int) < (l52 : Int))) (
  br b73 (
  arith .i64 (n74 + 1) fun n76 =>
  ∃ m77, m77 < m75 ∧ I70 true n76 w17 m77) (
  idx p52 l52 n74 1 fun a78 =>
  ldI .u64 a78 w17 fun n79 =>
  arith .i64 (n74 + 1) fun n80 =>
  ∃ m81, m81 < m75 ∧ I70 ((n79 : Int) == x2) n80 w17 m81)) (
  call Try.prog 21 #[.pointer p5, .int .u64 x2] w17 fun v82 w18 =>
  ∃ (n83 : Int) (n84 : Int),
  v82 = .tuple #[.int .i64 n83, .int .i64 n84] ∧
  br (((n84 : Int) == 0) == b73) (
  call Try.prog 16 #[.pointer p5] w18 fun v85 w19 =>
  asI .i64 v85 fun n86 =>
  br ((n86 : Int) == (l52 : Int)) (
  call Try.prog 14 #[] w19 fun v87 w20 =>
  asB v87 fun b88 =>
  R (.bool b88) w20) (
  R (.bool false) w19)) (
  R (.bool false) w18))))
@[irreducible] def tenonlaw02_ArenaStale_ann : Ann := .seq .none (.seq .none (.seq .none (.seq .none (.meet [(9, .slice), (10, .slice)] (.seq .none (.one (.loop [(9, .slice), (10, .slice), (11, .int .i64)] .none))) (.seq (.seq .none (.one (.loop [(17, .int .i64)] .none))) (.seq .none (.seq (.seq .none (.one (.loop [(20, .bool), (21, .int .i64)] .none))) .none)))))))
theorem tenonlaw02_ArenaStale_call {x0 : Int} {x1 : Option Addr} {y1 z1 : Nat} {x2 : Int} {R : Value → World → Prop} {w : World} (h : tenonlaw02_ArenaStale x0 x1 y1 z1 x2 R w) : call Try.prog 7 #[.int .i64 x0, .slice x1 y1 z1, .int .u64 x2] w R :=
  call_of_fnW plain mixed Try.func7 tenonlaw02_ArenaStale_ann (Eq.mp (by kernel_rfl : tenonlaw02_ArenaStale x0 x1 y1 z1 x2 R w = fnW Try.prog Try.f7 tenonlaw02_ArenaStale_ann #[.int .i64 x0, .slice x1 y1 z1, .int .u64 x2] R w) h)

def tenonlaw02_ArenaAll (x0 : Int) (x1 : Option Addr) (y1 z1 : Nat) (x2 : Int) (R : Value → World → Prop) (w : World) : Prop :=
  call Try.prog 11 #[.int .i64 x0, .int .i64 40] w fun v1 w1 =>
  asI .i64 v1 fun n2 =>
  arith .i64 (1 + n2) fun n3 =>
  call Try.prog 18 #[.int .i64 n3, .int .u32 1] w1 fun v4 w2 =>
  asP v4 fun p5 =>
  br p5.isNone (
  R (.bool false) w2) (
  ∃ J6 : World → Prop, (
  ∃ I7 : Int → World → Nat → Prop, (∃ m8, I7 0 w2 m8) ∧
  ∀ (u9 : Nat → Value) (n10 : Int) (w3 : World) (m11 : Nat), I7 n10 w3 m11 →
  br (decide ((n10 : Int) < (y1 : Int))) (
  br (decide ((n10 : Int) < 200)) (
  idx x1 y1 n10 4 fun a12 =>
  ldA a12 4 w3 fun g13 =>
  call Try.prog 19 #[.pointer p5, .agg g13] w3 fun v14 w4 =>
  asB v14 fun b15 =>
  arith .i64 (n10 + 1) fun n16 =>
  ∃ m17, m17 < m11 ∧ I7 n16 w4 m17) (
  J6  w3)) (
  J6  w3)) ∧
  ∀ (u18 : Nat → Value)  (w5 : World), J6  w5 →
  nn p5 fun a19 =>
  ldP (a19.add 1) w5 fun p20 =>
  call Try.prog 20 #[.pointer p20] w5 fun v21 w6 =>
  asS v21 fun p22 l22 c22 =>
  nn p5 fun a23 =>
  ldP (a23.add 0) w6 fun p24 =>
  call Try.prog 23 #[.pointer p24, .int .i64 1000] w6 fun v25 w7 =>
  ∃ (p26 : Option Addr) (l26 c26 : Nat) (p27 : Option Addr) (l27 c27 : Nat),
  v25 = .tuple #[.slice p26 l26 c26, .slice p27 l27 c27] ∧
  call Try.prog 24 #[.slice p26 l26 c26, .slice p22 l22 c22] w7 fun v28 w8 =>
  asB v28 fun b29 =>
  br (!b29) (
  R (.bool false) w8) (
  ∃ I30 : Int → World → Nat → Prop, (∃ m31, I30 0 w8 m31) ∧
  ∀ (u32 : Nat → Value) (n33 : Int) (w9 : World) (m34 : Nat), I30 n33 w9 m34 →
  br (decide ((n33 : Int) < (l26 : Int))) (
  idx p26 l26 n33 1 fun a35 =>
  ldI .u64 a35 w9 fun n36 =>
  call Try.prog 15 #[.int .u64 n36] w9 fun v37 w10 =>
  ∃ (n38 : Int) (n39 : Int),
  v37 = .tuple #[.int .i64 n38, .int .u32 n39] ∧
  idx p27 l27 n33 1 fun a40 =>
  ldI .i64 a40 w10.drew fun n41 =>
  nn p5 fun a42 =>
  ldP (a42.add 1) w10.drew fun p43 =>
  nn p43 fun a44 =>
  ldS (a44.add 2) w10.drew fun p45 l45 c45 =>
  nn p5 fun a46 =>
  ldP (a46.add 1) w10.drew fun p47 =>
  idx p26 l26 n33 1 fun a48 =>
  ldI .u64 a48 w10.drew fun n49 =>
  call Try.prog 25 #[.pointer p47, .int .u64 n49] w10.drew fun v50 w11 =>
  asI .i64 v50 fun n51 =>
  w11.cell? (a44.add 2) = some (.slice p45 l45 c45) ∧
  w11.cell? (a42.add 1) = some (.pointer p43) ∧
  w11.cell? a40 = some (.int .i64 n41) ∧
  idx p45 l45 n51 3 fun a52 =>
  ldI .i64 (a52.add 0) w11 fun n53 =>
  br ((n41 : Int) != n53) (
  R (.bool false) w11) (
  br (decide ((n33 : Int) > 0)) (
  idx p26 l26 n33 1 fun a54 =>
  ldI .u64 a54 w11 fun n55 =>
  arith .u32 n55 fun n56 =>
  arith .i64 (n33 - 1) fun n57 =>
  idx p26 l26 n57 1 fun a58 =>
  ldI .u64 a58 w11 fun n59 =>
  arith .u32 n59 fun n60 =>
  br (decide ((n56 : Int) ≤ n60)) (
  R (.bool false) w11) (
  idx p26 l26 n33 1 fun a61 =>
  ldI .u64 a61 w11 fun n62 =>
  arith .u32 n62 fun n63 =>
  arith .i64 n63 fun n64 =>
  arith .i64 (n64 - 1) fun n65 =>
  br ((n38 : Int) != n65) (
  R (.bool false) w11) (
  arith .i64 (n33 + 1) fun n66 =>
  ∃ m67, m67 < m34 ∧ I30 n66 w11 m67))) (
  idx p26 l26 n33 1 fun a68 =>
  ldI .u64 a68 w11 fun n69 =>
  arith .u32 n69 fun n70 =>
  arith .i64 n70 fun n71 =>
  arith .i64 (n71 - 1) fun n72 =>
  br ((n38 : Int) != n72) (
  R (.bool false) w11) (
  arith .i64 (n33 + 1) fun n73 =>
  ∃ m74, m74 < m34 ∧ I30 n73 w11 m74)))) (
  arith .i64 ((l26 : Int) + 1) fun n75 =>
  call Try.prog 11 #[.int .i64 x2, .int .i64 n75] w9 fun v76 w12 =>
  asI .i64 v76 fun n77 =>
  nn p5 fun a78 =>
  ldP (a78.add 0) w12 fun p79 =>
  call Try.prog 23 #[.pointer p79, .int .i64 n77] w12 fun v80 w13 =>
  ∃ (p81 : Option Addr) (l81 c81 : Nat) (p82 : Option Addr) (l82 c82 : Nat),
  v80 = .tuple #[.slice p81 l81 c81, .slice p82 l82 c82] ∧
  slc p22 c22 1 0 n77 fun p83 l83 c83 =>
  call Try.prog 24 #[.slice p81 l81 c81, .slice p83 l83 c83] w13 fun v84 w14 =>
  asB v84 fun b85 =>
  br b85 (
  call Try.prog 14 #[] w14 fun v86 w15 =>
  asB v86 fun b87 =>
  R (.bool b87) w15) (
  R (.bool false) w14))))
@[irreducible] def tenonlaw02_ArenaAll_ann : Ann := .seq .none (.seq .none (.seq .none (.meet [] (.seq .none (.one (.loop [(8, .int .i64)] .none))) (.seq .none (.seq .none (.seq .none (.seq (.seq .none (.one (.loop [(12, .int .i64)] (.seq .none (.seq (.one (.seq .none (.seq (.draw [[], [], [0, 1], [0, 1, 2], [], [4], [4, 5], [4, 5, 6], [4, 5, 6, 7], [4, 5, 6, 7, 8], [4, 5, 6, 7, 8, 9], [], [11], [11, 12], [11, 12, 13], [], [], [15, 16], [15, 16, 17], [11, 12, 13, 14, 15, 16, 17, 18], [4, 5, 6, 7, 8, 9, 10, 11, 12, 13, 14, 15, 16, 17, 18, 19], [4, 5, 6, 7, 8, 9, 10, 11, 12, 13, 14, 15, 16, 17, 18, 19, 20], [4, 5, 6, 7, 8, 9, 10, 11, 12, 13, 14, 15, 16, 17, 18, 19, 20, 21], [0, 1, 2, 3, 4, 5, 6, 7, 8, 9, 10, 11, 12, 13, 14, 15, 16, 17, 18, 19, 20, 21, 22], [0, 1, 2, 3, 4, 5, 6, 7, 8, 9, 10, 11, 12, 13, 14, 15, 16, 17, 18, 19, 20, 21, 22, 23], [0, 1, 2, 3, 4, 5, 6, 7, 8, 9, 10, 11, 12, 13, 14, 15, 16, 17, 18, 19, 20, 21, 22, 23, 24], [0, 1, 2, 3, 4, 5, 6, 7, 8, 9, 10, 11, 12, 13, 14, 15, 16, 17, 18, 19, 20, 21, 22, 23, 24, 25], [0, 1, 2, 3, 4, 5, 6, 7, 8, 9, 10, 11, 12, 13, 14, 15, 16, 17, 18, 19, 20, 21, 22, 23, 24, 25, 26], [0, 1, 2, 3, 4, 5, 6, 7, 8, 9, 10, 11, 12, 13, 14, 15, 16, 17, 18, 19, 20, 21, 22, 23, 24, 25, 26, 27], [0, 1, 2, 3, 4, 5, 6, 7, 8, 9, 10, 11, 12, 13, 14, 15, 16, 17, 18, 19, 20, 21, 22, 23, 24, 25, 26, 27], [0, 1, 2, 3, 4, 5, 6, 7, 8, 9, 10, 11, 12, 13, 14, 15, 16, 17, 18, 19, 20, 21, 22, 23, 24, 25, 26, 27, 28, 29], [0, 1, 2, 3, 4, 5, 6, 7, 8, 9, 10, 11, 12, 13, 14, 15, 16, 17, 18, 19, 20, 21, 22, 23, 24, 25, 26, 27, 28, 29, 30], [0, 1, 2, 3, 4, 5, 6, 7, 8, 9, 10, 11, 12, 13, 14, 15, 16, 17, 18, 19, 20, 21, 22, 23, 24, 25, 26, 27, 28, 29, 30, 31], [0, 1, 2, 3, 4, 5, 6, 7, 8, 9, 10, 11, 12, 13, 14, 15, 16, 17, 18, 19, 20, 21, 22, 23, 24, 25, 26, 27], [0, 1, 2, 3, 4, 5, 6, 7, 8, 9, 10, 11, 12, 13, 14, 15, 16, 17, 18, 19, 20, 21, 22, 23, 24, 25, 26, 27], [0, 1, 2, 3, 4, 5, 6, 7, 8, 9, 10, 11, 12, 13, 14, 15, 16, 17, 18, 19, 20, 21, 22, 23, 24, 25, 26, 27, 34], [0, 1, 2, 3, 4, 5, 6, 7, 8, 9, 10, 11, 12, 13, 14, 15, 16, 17, 18, 19, 20, 21, 22, 23, 24, 25, 26, 27, 33, 34, 35], [0, 1, 2, 3, 4, 5, 6, 7, 8, 9, 10, 11, 12, 13, 14, 15, 16, 17, 18, 19, 20, 21, 22, 23, 24, 25, 26, 27, 33, 34, 35, 36], [0, 1, 2, 3, 4, 5, 6, 7, 8, 9, 10, 11, 12, 13, 14, 15, 16, 17, 18, 19, 20, 21, 22, 23, 24, 25, 26, 27, 33, 34, 35, 36, 37], [0, 1, 2, 3, 4, 5, 6, 7, 8, 9, 10, 11, 12, 13, 14, 15, 16, 17, 18, 19, 20, 21, 22, 23, 24, 25, 26, 27, 28, 29, 30, 31, 32, 33, 34, 35, 36, 37, 38], [0, 1, 2, 3, 4, 5, 6, 7, 8, 9, 10, 11, 12, 13, 14, 15, 16, 17, 18, 19, 20, 21, 22, 23, 24, 25, 26, 27, 28, 29, 30, 31, 32, 33, 34, 35, 36, 37, 38, 39], [0, 1, 2, 3, 4, 5, 6, 7, 8, 9, 10, 11, 12, 13, 14, 15, 16, 17, 18, 19, 20, 21, 22, 23, 24, 25, 26, 27, 28, 29, 30, 31, 32, 33, 34, 35, 36, 37, 38, 39, 40], [0, 1, 2, 3, 4, 5, 6, 7, 8, 9, 10, 11, 12, 13, 14, 15, 16, 17, 18, 19, 20, 21, 22, 23, 24, 25, 26, 27, 28, 29, 30, 31, 32, 33, 34, 35, 36, 37, 38, 39, 40, 41], [0, 1, 2, 3, 4, 5, 6, 7, 8, 9, 10, 11, 12, 13, 14, 15, 16, 17, 18, 19, 20, 21, 22, 23, 24, 25, 26, 27, 28, 29, 30, 31, 32, 33, 34, 35, 36, 37, 38, 39, 40, 41, 42], [0, 1, 2, 3, 4, 5, 6, 7, 8, 9, 10, 11, 12, 13, 14, 15, 16, 17, 18, 19, 20, 21, 22, 23, 24, 25, 26, 27, 28, 29, 30, 31, 32, 33, 34, 35, 36, 37, 38, 39, 40, 41, 42], [0, 1, 2, 3, 4, 5, 6, 7, 8, 9, 10, 11, 12, 13, 14, 15, 16, 17, 18, 19, 20, 21, 22, 23, 24, 25, 26, 27, 28, 29, 30, 31, 32, 33, 34, 35, 36, 37, 38, 39, 40, 41, 42], [0, 1, 2, 3, 4, 5, 6, 7, 8, 9, 10, 11, 12, 13, 14, 15, 16, 17, 18, 19, 20, 21, 22, 23, 24, 25, 26, 27, 28, 29, 30, 31, 32, 33, 34, 35, 36, 37, 38, 39, 40, 41, 42, 44, 45], [0, 1, 2, 3, 4, 5, 6, 7, 8, 9, 10, 11, 12, 13, 14, 15, 16, 17, 18, 19, 20, 21, 22, 23, 24, 25, 26, 27, 28, 29, 30, 31, 32, 33, 34, 35, 36, 37, 38, 39, 40, 41, 42, 44, 45, 46], [0, 1, 2, 3, 4, 5, 6, 7, 8, 9, 10, 11, 12, 13, 14, 15, 16, 17, 18, 19, 20, 21, 22, 23, 24, 25, 26, 27, 28, 29, 30, 31, 32, 33, 34, 35, 36, 37, 38, 39, 40, 41, 42, 44, 45, 46, 47], [0, 1, 2, 3, 4, 5, 6, 7, 8, 9, 10, 11, 12, 13, 14, 15, 16, 17, 18, 19, 20, 21, 22, 23, 24, 25, 26, 27, 28, 29, 30, 31, 32, 33, 34, 35, 36, 37, 38, 39, 40, 41, 42, 44, 45, 46, 47, 48], [0, 1, 2, 3, 4, 5, 6, 7, 8, 9, 10, 11, 12, 13, 14, 15, 16, 17, 18, 19, 20, 21, 22, 23, 24, 25, 26, 27, 28, 29, 30, 31, 32, 33, 34, 35, 36, 37, 38, 39, 40, 41, 42, 44, 45, 46, 47, 48, 49], [0, 1, 2, 3, 4, 5, 6, 7, 8, 9, 10, 11, 12, 13, 14, 15, 16, 17, 18, 19, 20, 21, 22, 23, 24, 25, 26, 27, 28, 29, 30, 31, 32, 33, 34, 35, 36, 37, 38, 39, 40, 41, 42, 43, 44, 45, 46, 47, 48, 49, 50], [0, 1, 2, 3, 4, 5, 6, 7, 8, 9, 10, 11, 12, 13, 14, 15, 16, 17, 18, 19, 20, 21, 22, 23, 24, 25, 26, 27, 28, 29, 30, 31, 32, 33, 34, 35, 36, 37, 38, 39, 40, 41, 42, 43, 44, 45, 46, 47, 48, 49, 50, 51]] (ol [0, 1, 2, 3, 4, 5, 6, 7, 8, 9, 10, 11, 12, 13, 14, 15, 16, 17, 18, 19, 20, 21, 22, 23, 24, 25, 26, 27, 28, 29, 30, 31, 32, 33, 34, 35, 36, 37, 38, 39, 40, 41, 42, 43, 44, 45, 46, 47, 48, 49, 50, 51, 52] .nil)) .none))) .none))))) .none)))))))
theorem tenonlaw02_ArenaAll_call {x0 : Int} {x1 : Option Addr} {y1 z1 : Nat} {x2 : Int} {R : Value → World → Prop} {w : World} (h : tenonlaw02_ArenaAll x0 x1 y1 z1 x2 R w) : call Try.prog 8 #[.int .i64 x0, .slice x1 y1 z1, .int .i64 x2] w R :=
  call_of_fnW plain mixed Try.func8 tenonlaw02_ArenaAll_ann (Eq.mp (by kernel_rfl : tenonlaw02_ArenaAll x0 x1 y1 z1 x2 R w = fnW Try.prog Try.f8 tenonlaw02_ArenaAll_ann #[.int .i64 x0, .slice x1 y1 z1, .int .i64 x2] R w) h)

def tenonlaw02_ArenaNil (x0 : Int) (x1 : Int) (R : Value → World → Prop) (w : World) : Prop :=
  call Try.prog 12 #[.pointer none, .int .i64 x1] w fun v1 w1 =>
  ∃ (n2 : Int) (n3 : Int),
  v1 = .tuple #[.int .u64 n2, .int .i64 n3] ∧
  call Try.prog 21 #[.pointer none, .int .u64 x0] w1 fun v4 w2 =>
  ∃ (n5 : Int) (n6 : Int),
  v4 = .tuple #[.int .i64 n5, .int .i64 n6] ∧
  call Try.prog 13 #[.pointer none, .int .u64 x0] w2 fun v7 w3 =>
  ∃ (n8 : Int) (n9 : Int),
  v7 = .tuple #[.int .i64 n8, .int .i64 n9] ∧
  call Try.prog 23 #[.pointer none, .int .i64 9] w3 fun v10 w4 =>
  ∃ (p11 : Option Addr) (l11 c11 : Nat) (p12 : Option Addr) (l12 c12 : Nat),
  v10 = .tuple #[.slice p11 l11 c11, .slice p12 l12 c12] ∧
  br ((n2 : Int) == 0) (
  br ((n3 : Int) == 3) (
  br ((n5 : Int) == 0) (
  br ((n6 : Int) == 2) (
  br ((n8 : Int) == 0) (
  br ((n9 : Int) == 2) (
  call Try.prog 22 #[.pointer none, .int .u64 x0, .int .i64 x1] w4 fun v13 w5 =>
  asI .i64 v13 fun n14 =>
  br ((n14 : Int) == 2) (
  call Try.prog 16 #[.pointer none] w5 fun v15 w6 =>
  asI .i64 v15 fun n16 =>
  br ((n16 : Int) == 0) (
  br ((l11 : Int) == 0) (
  call Try.prog 14 #[] w6 fun v17 w7 =>
  asB v17 fun b18 =>
  R (.bool b18) w7) (
  R (.bool false) w6)) (
  R (.bool false) w6)) (
  R (.bool false) w5)) (
  R (.bool false) w4)) (
  R (.bool false) w4)) (
  R (.bool false) w4)) (
  R (.bool false) w4)) (
  R (.bool false) w4)) (
  R (.bool false) w4)
@[irreducible] def tenonlaw02_ArenaNil_ann : Ann := .none
theorem tenonlaw02_ArenaNil_call {x0 : Int} {x1 : Int} {R : Value → World → Prop} {w : World} (h : tenonlaw02_ArenaNil x0 x1 R w) : call Try.prog 9 #[.int .u64 x0, .int .i64 x1] w R :=
  call_of_fnW plain mixed Try.func9 tenonlaw02_ArenaNil_ann (Eq.mp (by kernel_rfl : tenonlaw02_ArenaNil x0 x1 R w = fnW Try.prog Try.f9 tenonlaw02_ArenaNil_ann #[.int .u64 x0, .int .i64 x1] R w) h)

def arena_New (x0 : Int) (x1 : Int) (R : Value → World → Prop) (w : World) : Prop :=
  br (decide ((x0 : Int) < 1)) (
  R (.tuple #[.pointer none, .int .i64 1]) w) (
  br (decide ((x0 : Int) > 65536)) (
  R (.tuple #[.pointer none, .int .i64 1]) w) (
  br ((x1 : Int) == 0) (
  R (.tuple #[.pointer none, .int .i64 1]) w) (
  new #[.int .i64 x0, .int .u32 x1, .slice none 0 0, .slice none 0 0, .int .i64 0] 70 w fun k1 w1 =>
  R (.tuple #[.pointer (some (⟨k1, 0, none⟩ : Addr)), .int .i64 0]) w1)))
@[irreducible] def arena_New_ann : Ann := .none
theorem arena_New_call {x0 : Int} {x1 : Int} {R : Value → World → Prop} {w : World} (h : arena_New x0 x1 R w) : call Try.prog 10 #[.int .i64 x0, .int .u32 x1] w R :=
  call_of_fnW plain mixed Try.func10 arena_New_ann (Eq.mp (by kernel_rfl : arena_New x0 x1 R w = fnW Try.prog Try.f10 arena_New_ann #[.int .i64 x0, .int .u32 x1] R w) h)

def tenonref01_Pick (x0 : Int) (x1 : Int) (R : Value → World → Prop) (w : World) : Prop :=
  br (decide ((x1 : Int) < 1)) (
  R (.int .i64 0) w) (
  rem x0 x1 fun n1 =>
  br (decide ((n1 : Int) < 0)) (
  arith .i64 (n1 + x1) fun n2 =>
  R (.int .i64 n2) w) (
  R (.int .i64 n1) w))
@[irreducible] def tenonref01_Pick_ann : Ann := .none
theorem tenonref01_Pick_call {x0 : Int} {x1 : Int} {R : Value → World → Prop} {w : World} (h : tenonref01_Pick x0 x1 R w) : call Try.prog 11 #[.int .i64 x0, .int .i64 x1] w R :=
  call_of_fnW plain mixed Try.func11 tenonref01_Pick_ann (Eq.mp (by kernel_rfl : tenonref01_Pick x0 x1 R w = fnW Try.prog Try.f11 tenonref01_Pick_ann #[.int .i64 x0, .int .i64 x1] R w) h)

def arena_Arena_Put (x0 : Option Addr) (x1 : Int) (R : Value → World → Prop) (w : World) : Prop :=
  br x0.isNone (
  R (.tuple #[.int .u64 0, .int .i64 3]) w) (
  nn x0 fun a1 =>
  ldS (a1.add 2) w fun p2 l2 c2 =>
  ∃ J3 : Int → World → Prop, (
  nn x0 fun a4 =>
  ldS (a4.add 3) w fun p5 l5 c5 =>
  br (decide ((l5 : Int) > 0)) (
  nn x0 fun a6 =>
  ldS (a6.add 3) w fun p7 l7 c7 =>
  arith .i64 ((l5 : Int) - 1) fun n8 =>
  idx p7 l7 n8 1 fun a9 =>
  ldI .i64 a9 w fun n10 =>
  nn x0 fun a11 =>
  ldS (a11.add 3) w fun p12 l12 c12 =>
  arith .i64 ((l5 : Int) - 1) fun n13 =>
  slc p12 c12 1 0 n13 fun p14 l14 c14 =>
  nn x0 fun a15 =>
  st (a15.add 3) (.slice p14 l14 c14) w fun w1 =>
  J3 n10 w1) (
  nn x0 fun a16 =>
  ldI .i64 (a16.add 0) w fun n17 =>
  br ((l2 : Int) == n17) (
  R (.tuple #[.int .u64 0, .int .i64 3]) w) (
  nn x0 fun a18 =>
  ldS (a18.add 2) w.drew fun p19 l19 c19 =>
  nn x0 fun a20 =>
  ldI .u32 (a20.add 1) w.drew fun n21 =>
  (#[.int .i64 0, .int .u32 n21, .bool false] : Array Value).size = 3 ∧
  new #[.int .i64 0, .int .u32 n21, .bool false] 72 w.drew fun k22 w2 =>
  runsS Try.prog (Builtin.append_ #[68, 68] 68 #[.slice p19 l19 c19, .slice (some (⟨k22, 0, none⟩ : Addr)) 1 1]) w2 fun p23 l23 c23 w3 =>
  nn x0 fun a24 =>
  st (a24.add 2) (.slice p23 l23 c23) w3 fun w4 =>
  J3 ((l2 : Int)) w4))) ∧
  ∀ (u25 : Nat → Value) (n26 : Int) (w5 : World), J3 n26 w5 →
  nn x0 fun a27 =>
  ldS (a27.add 2) w5 fun p28 l28 c28 =>
  idx p28 l28 n26 3 fun a29 =>
  st (a29.add 0) (.int .i64 x1) w5 fun w6 =>
  st (a29.add 2) (.bool true) w6 fun w7 =>
  nn x0 fun a30 =>
  ldI .i64 (a30.add 4) w7 fun n31 =>
  arith .i64 (n31 + 1) fun n32 =>
  nn x0 fun a33 =>
  st (a33.add 4) (.int .i64 n32) w7 fun w8 =>
  ldI .u32 (a29.add 1) w8 fun n34 =>
  call Try.prog 26 #[.int .i64 n26, .int .u32 n34] w8 fun v35 w9 =>
  asI .u64 v35 fun n36 =>
  R (.tuple #[.int .u64 n36, .int .i64 0]) w9)
@[irreducible] def arena_Arena_Put_ann : Ann := .seq .none (.seq .none (.seq .none (.meet [(6, .int .i64)] (.seq .none (.seq .none (.seq .none (.seq .none (.seq .none (.draw [[], [], [1], [1, 2], [1, 2, 3], [], [5], [5, 6], [5, 6, 7], [5, 6, 7, 8], [5, 6, 7, 8, 9], [1, 2, 3, 4, 5, 6, 7, 8, 9, 10], [0, 1, 2, 3, 4, 5, 6, 7, 8, 9, 10, 11], [0, 1, 2, 3, 4, 5, 6, 7, 8, 9, 10, 11, 12], [0, 1, 2, 3, 4, 5, 6, 7, 8, 9, 10, 11, 12, 13]] (ol [0, 1, 2, 3, 4, 5, 6, 7, 8, 9, 10, 11, 12, 13, 14] .nil))))))) .none)))
theorem arena_Arena_Put_call {x0 : Option Addr} {x1 : Int} {R : Value → World → Prop} {w : World} (h : arena_Arena_Put x0 x1 R w) : call Try.prog 12 #[.pointer x0, .int .i64 x1] w R :=
  call_of_fnW plain mixed Try.func12 arena_Arena_Put_ann (Eq.mp (by kernel_rfl : arena_Arena_Put x0 x1 R w = fnW Try.prog Try.f12 arena_Arena_Put_ann #[.pointer x0, .int .i64 x1] R w) h)

def arena_Arena_Drop (x0 : Option Addr) (x1 : Int) (R : Value → World → Prop) (w : World) : Prop :=
  call Try.prog 27 #[.pointer x0, .int .u64 x1] w fun v1 w1 =>
  ∃ (p2 : Option Addr) (n3 : Int),
  v1 = .tuple #[.pointer p2, .int .i64 n3] ∧
  br p2.isNone (
  R (.tuple #[.int .i64 0, .int .i64 2]) w1) (
  nn p2 fun a4 =>
  ldI .i64 (a4.add 0) w1 fun n5 =>
  nn p2 fun a6 =>
  st (a6.add 0) (.int .i64 0) w1 fun w2 =>
  nn p2 fun a7 =>
  st (a7.add 2) (.bool false) w2 fun w3 =>
  nn x0 fun a8 =>
  ldI .i64 (a8.add 4) w3 fun n9 =>
  arith .i64 (n9 - 1) fun n10 =>
  nn x0 fun a11 =>
  st (a11.add 4) (.int .i64 n10) w3 fun w4 =>
  nn p2 fun a12 =>
  ldI .u32 (a12.add 1) w4 fun n13 =>
  br (decide ((n13 : Int) < 4294967295)) (
  nn p2 fun a14 =>
  ldI .u32 (a14.add 1) w4 fun n15 =>
  arith .u32 (n15 + 1) fun n16 =>
  nn p2 fun a17 =>
  st (a17.add 1) (.int .u32 n16) w4 fun w5 =>
  nn x0 fun a18 =>
  ldS (a18.add 3) w5 fun p19 l19 c19 =>
  new #[.int .i64 n3] 3 w5 fun k20 w6 =>
  runsS Try.prog (Builtin.append_ #[43, 43] 43 #[.slice p19 l19 c19, .slice (some (⟨k20, 0, none⟩ : Addr)) 1 1]) w6 fun p21 l21 c21 w7 =>
  nn x0 fun a22 =>
  st (a22.add 3) (.slice p21 l21 c21) w7 fun w8 =>
  R (.tuple #[.int .i64 n5, .int .i64 0]) w8) (
  R (.tuple #[.int .i64 n5, .int .i64 0]) w4))
@[irreducible] def arena_Arena_Drop_ann : Ann := .none
theorem arena_Arena_Drop_call {x0 : Option Addr} {x1 : Int} {R : Value → World → Prop} {w : World} (h : arena_Arena_Drop x0 x1 R w) : call Try.prog 13 #[.pointer x0, .int .u64 x1] w R :=
  call_of_fnW plain mixed Try.func13 arena_Arena_Drop_ann (Eq.mp (by kernel_rfl : arena_Arena_Drop x0 x1 R w = fnW Try.prog Try.f13 arena_Arena_Drop_ann #[.pointer x0, .int .u64 x1] R w) h)

def tenonlaw02_awake  (R : Value → World → Prop) (w : World) : Prop :=
  call Try.prog 10 #[.int .i64 2, .int .u32 1] w fun v1 w1 =>
  ∃ (p2 : Option Addr) (n3 : Int),
  v1 = .tuple #[.pointer p2, .int .i64 n3] ∧
  call Try.prog 12 #[.pointer p2, .int .i64 7] w1 fun v4 w2 =>
  ∃ (n5 : Int) (n6 : Int),
  v4 = .tuple #[.int .u64 n5, .int .i64 n6] ∧
  call Try.prog 13 #[.pointer p2, .int .u64 n5] w2 fun v7 w3 =>
  ∃ (n8 : Int) (n9 : Int),
  v7 = .tuple #[.int .i64 n8, .int .i64 n9] ∧
  call Try.prog 12 #[.pointer p2, .int .i64 8] w3 fun v10 w4 =>
  ∃ (n11 : Int) (n12 : Int),
  v10 = .tuple #[.int .u64 n11, .int .i64 n12] ∧
  call Try.prog 21 #[.pointer p2, .int .u64 n5] w4 fun v13 w5 =>
  ∃ (n14 : Int) (n15 : Int),
  v13 = .tuple #[.int .i64 n14, .int .i64 n15] ∧
  br ((n3 : Int) == 0) (
  br ((n6 : Int) == 0) (
  br ((n9 : Int) == 0) (
  br ((n12 : Int) == 0) (
  br ((n5 : Int) == 4294967297) (
  br ((n8 : Int) == 7) (
  br ((n11 : Int) == 8589934593) (
  R (.bool ((n15 : Int) == 2)) w5) (
  R (.bool false) w5)) (
  R (.bool false) w5)) (
  R (.bool false) w5)) (
  R (.bool false) w5)) (
  R (.bool false) w5)) (
  R (.bool false) w5)) (
  R (.bool false) w5)
@[irreducible] def tenonlaw02_awake_ann : Ann := .none
theorem tenonlaw02_awake_call  {R : Value → World → Prop} {w : World} (h : tenonlaw02_awake  R w) : call Try.prog 14 #[] w R :=
  call_of_fnW plain mixed Try.func14 tenonlaw02_awake_ann (Eq.mp (by kernel_rfl : tenonlaw02_awake  R w = fnW Try.prog Try.f14 tenonlaw02_awake_ann #[] R w) h)

def arena_Split (x0 : Int) (R : Value → World → Prop) (w : World) : Prop :=
  arith .u32 x0 fun n1 =>
  arith .i64 n1 fun n2 =>
  arith .i64 (n2 - 1) fun n3 =>
  shr .u64 x0 32 fun n4 =>
  arith .u32 n4 fun n5 =>
  R (.tuple #[.int .i64 n3, .int .u32 n5]) w
@[irreducible] def arena_Split_ann : Ann := .none
theorem arena_Split_call {x0 : Int} {R : Value → World → Prop} {w : World} (h : arena_Split x0 R w) : call Try.prog 15 #[.int .u64 x0] w R :=
  call_of_fnW plain mixed Try.func15 arena_Split_ann (Eq.mp (by kernel_rfl : arena_Split x0 R w = fnW Try.prog Try.f15 arena_Split_ann #[.int .u64 x0] R w) h)

def arena_Arena_Len (x0 : Option Addr) (R : Value → World → Prop) (w : World) : Prop :=
  br x0.isNone (
  R (.int .i64 0) w) (
  nn x0 fun a1 =>
  ldI .i64 (a1.add 4) w fun n2 =>
  R (.int .i64 n2) w)
@[irreducible] def arena_Arena_Len_ann : Ann := .none
theorem arena_Arena_Len_call {x0 : Option Addr} {R : Value → World → Prop} {w : World} (h : arena_Arena_Len x0 R w) : call Try.prog 16 #[.pointer x0] w R :=
  call_of_fnW plain mixed Try.func16 arena_Arena_Len_ann (Eq.mp (by kernel_rfl : arena_Arena_Len x0 R w = fnW Try.prog Try.f16 arena_Arena_Len_ann #[.pointer x0] R w) h)

def tenonref02_New (x0 : Int) (x1 : Int) (R : Value → World → Prop) (w : World) : Prop :=
  br (decide ((x0 : Int) < 1)) (
  R (.pointer none) w) (
  br (decide ((x0 : Int) > 65536)) (
  R (.pointer none) w) (
  br ((x1 : Int) == 0) (
  R (.pointer none) w) (
  new #[.int .i64 x0, .int .u32 x1, .slice none 0 0, .slice none 0 0] 64 w fun k1 w1 =>
  R (.pointer (some (⟨k1, 0, none⟩ : Addr))) w1)))
@[irreducible] def tenonref02_New_ann : Ann := .none
theorem tenonref02_New_call {x0 : Int} {x1 : Int} {R : Value → World → Prop} {w : World} (h : tenonref02_New x0 x1 R w) : call Try.prog 17 #[.int .i64 x0, .int .u32 x1] w R :=
  call_of_fnW plain mixed Try.func17 tenonref02_New_ann (Eq.mp (by kernel_rfl : tenonref02_New x0 x1 R w = fnW Try.prog Try.f17 tenonref02_New_ann #[.int .i64 x0, .int .u32 x1] R w) h)

def tenonlaw02_begun (x0 : Int) (x1 : Int) (R : Value → World → Prop) (w : World) : Prop :=
  call Try.prog 10 #[.int .i64 x0, .int .u32 x1] w fun v1 w1 =>
  ∃ (p2 : Option Addr) (n3 : Int),
  v1 = .tuple #[.pointer p2, .int .i64 n3] ∧
  call Try.prog 17 #[.int .i64 x0, .int .u32 x1] w1 fun v4 w2 =>
  asP v4 fun p5 =>
  br p5.isNone (
  R (.pointer none) w2) (
  br p2.isNone (
  R (.pointer none) w2) (
  new #[.pointer p2, .pointer p5, .slice none 0 0] 52 w2 fun k6 w3 =>
  R (.pointer (some (⟨k6, 0, none⟩ : Addr))) w3))
@[irreducible] def tenonlaw02_begun_ann : Ann := .none
theorem tenonlaw02_begun_call {x0 : Int} {x1 : Int} {R : Value → World → Prop} {w : World} (h : tenonlaw02_begun x0 x1 R w) : call Try.prog 18 #[.int .i64 x0, .int .u32 x1] w R :=
  call_of_fnW plain mixed Try.func18 tenonlaw02_begun_ann (Eq.mp (by kernel_rfl : tenonlaw02_begun x0 x1 R w = fnW Try.prog Try.f18 tenonlaw02_begun_ann #[.int .i64 x0, .int .u32 x1] R w) h)

def tenonlaw02_Pair_do (x0 : Option Addr) (x1 : Array Value) (R : Value → World → Prop) (w : World) : Prop :=
  new x1 32 w fun k1 w1 =>
  ldI .u64 ((⟨k1, 0, none⟩ : Addr).add 3) w1 fun n2 =>
  ∃ J3 : Int → World → Prop, (
  ∃ J4 : Bool → World → Prop, (
  br ((n2 : Int) == 0) (
  nn x0 fun a5 =>
  ldS (a5.add 2) w1 fun p6 l6 c6 =>
  J4 (decide ((l6 : Int) > 0)) w1) (
  J4 false w1)) ∧
  ∀ (u7 : Nat → Value) (b8 : Bool) (w2 : World), J4 b8 w2 →
  br b8 (
  nn x0 fun a9 =>
  ldS (a9.add 2) w2.drew fun p10 l10 c10 =>
  ldI .i64 ((⟨k1, 0, none⟩ : Addr).add 1) w2.drew fun n11 =>
  nn x0 fun a12 =>
  ldS (a12.add 2) w2.drew fun p13 l13 c13 =>
  call Try.prog 11 #[.int .i64 n11, .int .i64 ((l13 : Int))] w2.drew fun v14 w3 =>
  asI .i64 v14 fun n15 =>
  w3.cell? (a9.add 2) = some (.slice p10 l10 c10) ∧
  idx p10 l10 n15 1 fun a16 =>
  ldI .u64 a16 w3 fun n17 =>
  J3 n17 w3) (
  J3 n2 w2)) ∧
  ∀ (u18 : Nat → Value) (n19 : Int) (w4 : World), J3 n19 w4 →
  nn x0 fun a20 =>
  ldP (a20.add 1) w4 fun p21 =>
  call Try.prog 25 #[.pointer p21, .int .u64 n19] w4 fun v22 w5 =>
  asI .i64 v22 fun n23 =>
  ldI .i64 ((⟨k1, 0, none⟩ : Addr).add 0) w5 fun n24 =>
  call Try.prog 11 #[.int .i64 n24, .int .i64 4] w5 fun v25 w6 =>
  asI .i64 v25 fun n26 =>
  br ((n26 : Int) == 0) (
  nn x0 fun a27 =>
  ldP (a27.add 0) w6.drew fun p28 =>
  ldI .i64 ((⟨k1, 0, none⟩ : Addr).add 2) w6.drew fun n29 =>
  call Try.prog 12 #[.pointer p28, .int .i64 n29] w6.drew fun v30 w7 =>
  ∃ (n31 : Int) (n32 : Int),
  v30 = .tuple #[.int .u64 n31, .int .i64 n32] ∧
  nn x0 fun a33 =>
  ldP (a33.add 1) w7.drew fun p34 =>
  ldI .i64 ((⟨k1, 0, none⟩ : Addr).add 2) w7.drew fun n35 =>
  call Try.prog 28 #[.pointer p34, .int .i64 n35] w7.drew fun v36 w8 =>
  asI .u64 v36 fun n37 =>
  ∃ J38 : World → Prop, (
  br ((n37 : Int) != 0) (
  nn x0 fun a39 =>
  ldS (a39.add 2) w8 fun p40 l40 c40 =>
  new #[.int .u64 n37] 30 w8 fun k41 w9 =>
  runsS Try.prog (Builtin.append_ #[29, 29] 29 #[.slice p40 l40 c40, .slice (some (⟨k41, 0, none⟩ : Addr)) 1 1]) w9 fun p42 l42 c42 w10 =>
  nn x0 fun a43 =>
  st (a43.add 2) (.slice p42 l42 c42) w10 fun w11 =>
  J38  w11) (
  J38  w8)) ∧
  ∀ (u44 : Nat → Value)  (w12 : World), J38  w12 →
  br ((n31 : Int) == n37) (
  br (((n32 : Int) == 0) == ((n37 : Int) != 0)) (
  br ((n32 : Int) == 0) (
  R (.bool true) w12) (
  R (.bool ((n32 : Int) == 3)) w12)) (
  R (.bool false) w12)) (
  R (.bool false) w12)) (
  br ((n26 : Int) == 1) (
  nn x0 fun a45 =>
  ldP (a45.add 0) w6 fun p46 =>
  call Try.prog 21 #[.pointer p46, .int .u64 n19] w6 fun v47 w13 =>
  ∃ (n48 : Int) (n49 : Int),
  v47 = .tuple #[.int .i64 n48, .int .i64 n49] ∧
  br (decide ((n23 : Int) < 0)) (
  br ((n48 : Int) == 0) (
  R (.bool ((n49 : Int) == 2)) w13) (
  R (.bool false) w13)) (
  nn x0 fun a50 =>
  ldP (a50.add 1) w13 fun p51 =>
  nn p51 fun a52 =>
  ldS (a52.add 2) w13 fun p53 l53 c53 =>
  idx p53 l53 n23 3 fun a54 =>
  ldI .i64 (a54.add 0) w13 fun n55 =>
  br ((n48 : Int) == n55) (
  R (.bool ((n49 : Int) == 0)) w13) (
  R (.bool false) w13))) (
  br ((n26 : Int) == 2) (
  nn x0 fun a56 =>
  ldP (a56.add 0) w6.drew fun p57 =>
  ldI .i64 ((⟨k1, 0, none⟩ : Addr).add 2) w6.drew fun n58 =>
  call Try.prog 22 #[.pointer p57, .int .u64 n19, .int .i64 n58] w6.drew fun v59 w14 =>
  asI .i64 v59 fun n60 =>
  br (decide ((n23 : Int) < 0)) (
  R (.bool ((n60 : Int) == 2)) w14) (
  nn x0 fun a61 =>
  ldP (a61.add 1) w14.drew fun p62 =>
  nn p62 fun a63 =>
  ldS (a63.add 2) w14.drew fun p64 l64 c64 =>
  ldI .i64 ((⟨k1, 0, none⟩ : Addr).add 2) w14.drew fun n65 =>
  idx p64 l64 n23 3 fun a66 =>
  st (a66.add 0) (.int .i64 n65) w14.drew fun w15 =>
  R (.bool ((n60 : Int) == 0)) w15)) (
  nn x0 fun a67 =>
  ldP (a67.add 0) w6 fun p68 =>
  call Try.prog 13 #[.pointer p68, .int .u64 n19] w6 fun v69 w16 =>
  ∃ (n70 : Int) (n71 : Int),
  v69 = .tuple #[.int .i64 n70, .int .i64 n71] ∧
  br (decide ((n23 : Int) < 0)) (
  br ((n70 : Int) == 0) (
  R (.bool ((n71 : Int) == 2)) w16) (
  R (.bool false) w16)) (
  nn x0 fun a72 =>
  ldP (a72.add 1) w16 fun p73 =>
  nn p73 fun a74 =>
  ldS (a74.add 2) w16 fun p75 l75 c75 =>
  idx p75 l75 n23 3 fun a76 =>
  ldI .i64 (a76.add 0) w16 fun n77 =>
  nn x0 fun a78 =>
  ldP (a78.add 1) w16 fun p79 =>
  call Try.prog 29 #[.pointer p79, .int .i64 n23] w16 fun v80 w17 =>
  v80 = .tuple #[] ∧
  br ((n70 : Int) == n77) (
  R (.bool ((n71 : Int) == 0)) w17) (
  R (.bool false) w17)))))
@[irreducible] def tenonlaw02_Pair_do_ann : Ann := .seq .none (.seq .none (.meet [(5, .int .u64)] (.meet [(27, .bool)] .none (.seq (.draw [[], [0], [0, 1], [0, 1, 2], [], [4], [], [6], [6, 7], [6, 7, 8], [6, 7, 8, 9], [4, 5, 6, 7, 8, 9, 10], [0, 1, 2, 3, 4, 5, 6, 7, 8, 9, 10, 11], [0, 1, 2, 3, 4, 5, 6, 7, 8, 9, 10, 11, 12], [0, 1, 2, 3, 4, 5, 6, 7, 8, 9, 10, 11, 12, 13]] (ol [0, 1, 2, 3, 4, 5, 6, 7, 8, 9, 10, 11, 12, 13, 14] .nil)) .none)) (.seq .none (.seq (.seq .none (.one (.seq .none (.seq (.seq (.draw [[], [0], [0, 1], [0, 1, 2], [], [4], [0, 1, 2, 3, 4, 5], [0, 1, 2, 3, 4, 5, 6], [0, 1, 2, 3, 4, 5, 6, 7], [0, 1, 2, 3, 4, 5, 6, 7], [0, 1, 2, 3, 4, 5, 6, 7, 8], [0, 1, 2, 3, 4, 5, 6, 7, 8, 9, 10]] (ol [0, 1, 2, 3, 4, 5, 6, 7, 8, 9, 10, 11] .nil)) (.seq (.draw [[], [0], [0, 1], [0, 1, 2], [], [4], [0, 1, 2, 3, 4, 5], [0, 1, 2, 3, 4, 5, 6]] (ol [0, 1, 2, 3, 4, 5, 6, 7] .nil)) (.meet [] .none .none))) (.seq .none (.seq .none (.seq .none (.seq (.seq (.draw [[], [0], [0, 1], [0, 1, 2], [], [], [5], [0, 1, 2, 3, 4, 5, 6], [0, 1, 2, 3, 4, 5, 6, 7]] (ol [0, 1, 2, 3, 4, 5, 6, 7, 8] .nil)) (.seq .none (.seq (.draw [[], [0], [0, 1], [0, 1, 2], [0, 1, 2, 3], [0, 1, 2, 3, 4], [0, 1, 2, 3, 4, 5], [], [], [8], [0, 1, 2, 3, 4, 5, 6, 7, 8, 9], [0, 1, 2, 3, 4, 5, 6, 7, 8, 9, 10], [0, 1, 2, 3, 4, 5, 6, 7, 8, 9, 10, 11]] (ol [0, 1, 2, 3, 4, 5, 6, 7, 8, 9, 10, 11, 12] .nil)) .none))) .none)))))))) .none))))
theorem tenonlaw02_Pair_do_call {x0 : Option Addr} {x1 : Array Value} {R : Value → World → Prop} {w : World} (h : tenonlaw02_Pair_do x0 x1 R w) : call Try.prog 19 #[.pointer x0, .agg x1] w R :=
  call_of_fnW plain mixed Try.func19 tenonlaw02_Pair_do_ann (Eq.mp (by kernel_rfl : tenonlaw02_Pair_do x0 x1 R w = fnW Try.prog Try.f19 tenonlaw02_Pair_do_ann #[.pointer x0, .agg x1] R w) h)

def tenonref02_Arena_All (x0 : Option Addr) (R : Value → World → Prop) (w : World) : Prop :=
  ∃ I1 : Option Addr → Nat → Nat → Int → World → Nat → Prop, (∃ m2, I1 none 0 0 0 w m2) ∧
  ∀ (u3 : Nat → Value) (p4 : Option Addr) (l4 c4 : Nat) (n5 : Int) (w1 : World) (m6 : Nat), I1 p4 l4 c4 n5 w1 m6 →
  nn x0 fun a7 =>
  ldS (a7.add 2) w1 fun p8 l8 c8 =>
  br (decide ((n5 : Int) < (l8 : Int))) (
  nn x0 fun a9 =>
  ldS (a9.add 2) w1 fun p10 l10 c10 =>
  idx p10 l10 n5 3 fun a11 =>
  ldI .i64 (a11.add 2) w1 fun n12 =>
  br ((n12 : Int) == 1) (
  nn x0 fun a13 =>
  ldS (a13.add 2) w1 fun p14 l14 c14 =>
  idx p14 l14 n5 3 fun a15 =>
  ldI .u32 (a15.add 1) w1 fun n16 =>
  call Try.prog 30 #[.int .i64 n5, .int .u32 n16] w1 fun v17 w2 =>
  asI .u64 v17 fun n18 =>
  new #[.int .u64 n18] 30 w2 fun k19 w3 =>
  runsS Try.prog (Builtin.append_ #[29, 29] 29 #[.slice p4 l4 c4, .slice (some (⟨k19, 0, none⟩ : Addr)) 1 1]) w3 fun p20 l20 c20 w4 =>
  arith .i64 (n5 + 1) fun n21 =>
  ∃ m22, m22 < m6 ∧ I1 p20 l20 c20 n21 w4 m22) (
  arith .i64 (n5 + 1) fun n23 =>
  ∃ m24, m24 < m6 ∧ I1 p4 l4 c4 n23 w1 m24)) (
  R (.slice p4 l4 c4) w1)
@[irreducible] def tenonref02_Arena_All_ann : Ann := .seq .none (.seq .none (.seq (.seq .none (.one (.loop [(3, .slice), (4, .int .i64)] .none))) .none))
theorem tenonref02_Arena_All_call {x0 : Option Addr} {R : Value → World → Prop} {w : World} (h : tenonref02_Arena_All x0 R w) : call Try.prog 20 #[.pointer x0] w R :=
  call_of_fnW plain mixed Try.func20 tenonref02_Arena_All_ann (Eq.mp (by kernel_rfl : tenonref02_Arena_All x0 R w = fnW Try.prog Try.f20 tenonref02_Arena_All_ann #[.pointer x0] R w) h)

def arena_Arena_Get (x0 : Option Addr) (x1 : Int) (R : Value → World → Prop) (w : World) : Prop :=
  call Try.prog 27 #[.pointer x0, .int .u64 x1] w fun v1 w1 =>
  ∃ (p2 : Option Addr) (n3 : Int),
  v1 = .tuple #[.pointer p2, .int .i64 n3] ∧
  br p2.isNone (
  R (.tuple #[.int .i64 0, .int .i64 2]) w1) (
  nn p2 fun a4 =>
  ldI .i64 (a4.add 0) w1 fun n5 =>
  R (.tuple #[.int .i64 n5, .int .i64 0]) w1)
@[irreducible] def arena_Arena_Get_ann : Ann := .none
theorem arena_Arena_Get_call {x0 : Option Addr} {x1 : Int} {R : Value → World → Prop} {w : World} (h : arena_Arena_Get x0 x1 R w) : call Try.prog 21 #[.pointer x0, .int .u64 x1] w R :=
  call_of_fnW plain mixed Try.func21 arena_Arena_Get_ann (Eq.mp (by kernel_rfl : arena_Arena_Get x0 x1 R w = fnW Try.prog Try.f21 arena_Arena_Get_ann #[.pointer x0, .int .u64 x1] R w) h)

def arena_Arena_Set (x0 : Option Addr) (x1 : Int) (x2 : Int) (R : Value → World → Prop) (w : World) : Prop :=
  call Try.prog 27 #[.pointer x0, .int .u64 x1] w fun v1 w1 =>
  ∃ (p2 : Option Addr) (n3 : Int),
  v1 = .tuple #[.pointer p2, .int .i64 n3] ∧
  br p2.isNone (
  R (.int .i64 2) w1) (
  nn p2 fun a4 =>
  st (a4.add 0) (.int .i64 x2) w1 fun w2 =>
  R (.int .i64 0) w2)
@[irreducible] def arena_Arena_Set_ann : Ann := .none
theorem arena_Arena_Set_call {x0 : Option Addr} {x1 : Int} {x2 : Int} {R : Value → World → Prop} {w : World} (h : arena_Arena_Set x0 x1 x2 R w) : call Try.prog 22 #[.pointer x0, .int .u64 x1, .int .i64 x2] w R :=
  call_of_fnW plain mixed Try.func22 arena_Arena_Set_ann (Eq.mp (by kernel_rfl : arena_Arena_Set x0 x1 x2 R w = fnW Try.prog Try.f22 arena_Arena_Set_ann #[.pointer x0, .int .u64 x1, .int .i64 x2] R w) h)

def tenonlaw02_handles (x0 : Option Addr) (x1 : Int) (R : Value → World → Prop) (w : World) : Prop :=
  new #[.int .i64 x1] 3 w fun k1 w1 =>
  new #[.slice none 0 0] 29 w1 fun k2 w2 =>
  new #[.slice none 0 0] 43 w2 fun k3 w3 =>
  call Try.prog 31 #[.pointer x0] w3 fun v4 w4 =>
  asF v4 fun f5 q5 t5 =>
  rangeW Try.prog (.func f5 q5 t5) 2 (fun xs6 N7 J8 T9 w5 => ∃ (n10 : Int) (n11 : Int), xs6 = #[.int .u64 n10, .int .i64 n11] ∧
  T9 w5 fun w6 =>
  ldS (⟨k2, 0, none⟩ : Addr) w6 fun p12 l12 c12 =>
  ldI .i64 (⟨k1, 0, none⟩ : Addr) w6 fun n13 =>
  br (decide ((l12 : Int) ≥ n13)) (
  J8 (.exit 0) w6) (
  ldS (⟨k2, 0, none⟩ : Addr) w6 fun p14 l14 c14 =>
  new #[.int .u64 n10] 30 w6 fun k15 w7 =>
  runsS Try.prog (Builtin.append_ #[29, 29] 29 #[.slice p14 l14 c14, .slice (some (⟨k15, 0, none⟩ : Addr)) 1 1]) w7 fun p16 l16 c16 w8 =>
  st (⟨k2, 0, none⟩ : Addr) (.slice p16 l16 c16) w8 fun w9 =>
  ldS (⟨k3, 0, none⟩ : Addr) w9 fun p17 l17 c17 =>
  new #[.int .i64 n11] 3 w9 fun k18 w10 =>
  runsS Try.prog (Builtin.append_ #[43, 43] 43 #[.slice p17 l17 c17, .slice (some (⟨k18, 0, none⟩ : Addr)) 1 1]) w10 fun p19 l19 c19 w11 =>
  st (⟨k3, 0, none⟩ : Addr) (.slice p19 l19 c19) w11 fun w12 =>
  N7 w12)) (fun D20 w13 =>
  ldS (⟨k2, 0, none⟩ : Addr) w13.drew fun p21 l21 c21 =>
  ldS (⟨k3, 0, none⟩ : Addr) w13.drew fun p22 l22 c22 =>
  shutD D20 w13.drew fun w14 =>
  R (.tuple #[.slice p21 l21 c21, .slice p22 l22 c22]) w14) (fun D23 c24 w15 => jmp c24 (
  False) [(0, ldS (⟨k2, 0, none⟩ : Addr) w15.drew fun p25 l25 c25 =>
  ldS (⟨k3, 0, none⟩ : Addr) w15.drew fun p26 l26 c26 =>
  shutD D23 w15.drew fun w16 =>
  R (.tuple #[.slice p25 l25 c25, .slice p26 l26 c26]) w16)]) w4
@[irreducible] def tenonlaw02_handles_ann : Ann := .seq .none (.seq .none (.seq .none (.seq (.seq .none (.seq .none (.seq (.seq .none (.one (.range [.int .u64, .int .i64] .none .none))) .none))) (.seq (.draw [[], [], [0], [0, 1, 2]] (ol [0, 1, 2, 3] .nil)) .none))))
theorem tenonlaw02_handles_call {x0 : Option Addr} {x1 : Int} {R : Value → World → Prop} {w : World} (h : tenonlaw02_handles x0 x1 R w) : call Try.prog 23 #[.pointer x0, .int .i64 x1] w R :=
  call_of_fnW plain mixed Try.func23 tenonlaw02_handles_ann (Eq.mp (by kernel_rfl : tenonlaw02_handles x0 x1 R w = fnW Try.prog Try.f23 tenonlaw02_handles_ann #[.pointer x0, .int .i64 x1] R w) h)

def tenonref01_SameLongs (x0 : Option Addr) (y0 z0 : Nat) (x1 : Option Addr) (y1 z1 : Nat) (R : Value → World → Prop) (w : World) : Prop :=
  br ((y0 : Int) != (y1 : Int)) (
  R (.bool false) w) (
  ∃ I1 : Int → World → Nat → Prop, (∃ m2, I1 0 w m2) ∧
  ∀ (u3 : Nat → Value) (n4 : Int) (w1 : World) (m5 : Nat), I1 n4 w1 m5 →
  br (decide ((n4 : Int) < (y0 : Int))) (
  idx x0 y0 n4 1 fun a6 =>
  ldI .u64 a6 w1.drew fun n7 =>
  idx x1 y1 n4 1 fun a8 =>
  ldI .u64 a8 w1.drew fun n9 =>
  br ((n7 : Int) != n9) (
  R (.bool false) w1.drew) (
  arith .i64 (n4 + 1) fun n10 =>
  ∃ m11, m11 < m5 ∧ I1 n10 w1.drew m11)) (
  R (.bool true) w1))
@[irreducible] def tenonref01_SameLongs_ann : Ann := .seq .none (.seq .none (.seq (.seq .none (.one (.loop [(5, .int .i64)] (.seq .none (.seq (.one (.seq (.draw [[], [], [0, 1], [0, 1, 2], [], [], [4, 5], [4, 5, 6], [0, 1, 2, 3, 4, 5, 6, 7]] (ol [0, 1, 2, 3, 4, 5, 6, 7, 8] .nil)) .none)) .none))))) .none))
theorem tenonref01_SameLongs_call {x0 : Option Addr} {y0 z0 : Nat} {x1 : Option Addr} {y1 z1 : Nat} {R : Value → World → Prop} {w : World} (h : tenonref01_SameLongs x0 y0 z0 x1 y1 z1 R w) : call Try.prog 24 #[.slice x0 y0 z0, .slice x1 y1 z1] w R :=
  call_of_fnW plain mixed Try.func24 tenonref01_SameLongs_ann (Eq.mp (by kernel_rfl : tenonref01_SameLongs x0 y0 z0 x1 y1 z1 R w = fnW Try.prog Try.f24 tenonref01_SameLongs_ann #[.slice x0 y0 z0, .slice x1 y1 z1] R w) h)

def tenonref02_Arena_At (x0 : Option Addr) (x1 : Int) (R : Value → World → Prop) (w : World) : Prop :=
  ∃ I1 : Int → World → Nat → Prop, (∃ m2, I1 0 w m2) ∧
  ∀ (u3 : Nat → Value) (n4 : Int) (w1 : World) (m5 : Nat), I1 n4 w1 m5 →
  nn x0 fun a6 =>
  ldS (a6.add 2) w1 fun p7 l7 c7 =>
  br (decide ((n4 : Int) < (l7 : Int))) (
  nn x0 fun a8 =>
  ldS (a8.add 2) w1 fun p9 l9 c9 =>
  idx p9 l9 n4 3 fun a10 =>
  ldI .i64 (a10.add 2) w1 fun n11 =>
  br ((n11 : Int) == 1) (
  nn x0 fun a12 =>
  ldS (a12.add 2) w1 fun p13 l13 c13 =>
  idx p13 l13 n4 3 fun a14 =>
  ldI .u32 (a14.add 1) w1 fun n15 =>
  call Try.prog 30 #[.int .i64 n4, .int .u32 n15] w1 fun v16 w2 =>
  asI .u64 v16 fun n17 =>
  br ((n17 : Int) == x1) (
  R (.int .i64 n4) w2) (
  arith .i64 (n4 + 1) fun n18 =>
  ∃ m19, m19 < m5 ∧ I1 n18 w2 m19)) (
  arith .i64 (n4 + 1) fun n20 =>
  ∃ m21, m21 < m5 ∧ I1 n20 w1 m21)) (
  R (.int .i64 (-1)) w1)
@[irreducible] def tenonref02_Arena_At_ann : Ann := .seq .none (.seq (.seq .none (.one (.loop [(5, .int .i64)] .none))) .none)
theorem tenonref02_Arena_At_call {x0 : Option Addr} {x1 : Int} {R : Value → World → Prop} {w : World} (h : tenonref02_Arena_At x0 x1 R w) : call Try.prog 25 #[.pointer x0, .int .u64 x1] w R :=
  call_of_fnW plain mixed Try.func25 tenonref02_Arena_At_ann (Eq.mp (by kernel_rfl : tenonref02_Arena_At x0 x1 R w = fnW Try.prog Try.f25 tenonref02_Arena_At_ann #[.pointer x0, .int .u64 x1] R w) h)

def arena_handle (x0 : Int) (x1 : Int) (R : Value → World → Prop) (w : World) : Prop :=
  arith .u64 x1 fun n1 =>
  shl .u64 n1 32 fun n2 =>
  arith .i64 (x0 + 1) fun n3 =>
  arith .u64 n3 fun n4 =>
  R (.int .u64 (bitw .or .u64 n2 n4)) w
@[irreducible] def arena_handle_ann : Ann := .none
theorem arena_handle_call {x0 : Int} {x1 : Int} {R : Value → World → Prop} {w : World} (h : arena_handle x0 x1 R w) : call Try.prog 26 #[.int .i64 x0, .int .u32 x1] w R :=
  call_of_fnW plain mixed Try.func26 arena_handle_ann (Eq.mp (by kernel_rfl : arena_handle x0 x1 R w = fnW Try.prog Try.f26 arena_handle_ann #[.int .i64 x0, .int .u32 x1] R w) h)

def arena_Arena_find (x0 : Option Addr) (x1 : Int) (R : Value → World → Prop) (w : World) : Prop :=
  call Try.prog 15 #[.int .u64 x1] w fun v1 w1 =>
  ∃ (n2 : Int) (n3 : Int),
  v1 = .tuple #[.int .i64 n2, .int .u32 n3] ∧
  br x0.isNone (
  R (.tuple #[.pointer none, .int .i64 0]) w1) (
  br (decide ((n2 : Int) < 0)) (
  R (.tuple #[.pointer none, .int .i64 0]) w1) (
  nn x0 fun a4 =>
  ldS (a4.add 2) w1 fun p5 l5 c5 =>
  br (decide ((n2 : Int) ≥ (l5 : Int))) (
  R (.tuple #[.pointer none, .int .i64 0]) w1) (
  nn x0 fun a6 =>
  ldS (a6.add 2) w1 fun p7 l7 c7 =>
  idx p7 l7 n2 3 fun a8 =>
  ldB (a8.add 2) w1 fun b9 =>
  br (!b9) (
  R (.tuple #[.pointer none, .int .i64 0]) w1) (
  ldI .u32 (a8.add 1) w1 fun n10 =>
  br ((n10 : Int) != n3) (
  R (.tuple #[.pointer none, .int .i64 0]) w1) (
  R (.tuple #[.pointer (some a8), .int .i64 n2]) w1)))))
@[irreducible] def arena_Arena_find_ann : Ann := .none
theorem arena_Arena_find_call {x0 : Option Addr} {x1 : Int} {R : Value → World → Prop} {w : World} (h : arena_Arena_find x0 x1 R w) : call Try.prog 27 #[.pointer x0, .int .u64 x1] w R :=
  call_of_fnW plain mixed Try.func27 arena_Arena_find_ann (Eq.mp (by kernel_rfl : arena_Arena_find x0 x1 R w = fnW Try.prog Try.f27 arena_Arena_find_ann #[.pointer x0, .int .u64 x1] R w) h)

def tenonref02_Arena_Put (x0 : Option Addr) (x1 : Int) (R : Value → World → Prop) (w : World) : Prop :=
  nn x0 fun a1 =>
  ldS (a1.add 3) w fun p2 l2 c2 =>
  nn x0 fun a3 =>
  ldS (a3.add 2) w fun p4 l4 c4 =>
  br (decide ((l2 : Int) > 0)) (
  nn x0 fun a5 =>
  ldS (a5.add 3) w fun p6 l6 c6 =>
  arith .i64 ((l2 : Int) - 1) fun n7 =>
  idx p6 l6 n7 1 fun a8 =>
  ldI .i64 a8 w fun n9 =>
  nn x0 fun a10 =>
  ldS (a10.add 3) w fun p11 l11 c11 =>
  arith .i64 ((l2 : Int) - 1) fun n12 =>
  slc p11 c11 1 0 n12 fun p13 l13 c13 =>
  nn x0 fun a14 =>
  st (a14.add 3) (.slice p13 l13 c13) w fun w1 =>
  nn x0 fun a15 =>
  ldS (a15.add 2) w1 fun p16 l16 c16 =>
  idx p16 l16 n9 3 fun a17 =>
  st (a17.add 0) (.int .i64 x1) w1 fun w2 =>
  nn x0 fun a18 =>
  ldS (a18.add 2) w2 fun p19 l19 c19 =>
  idx p19 l19 n9 3 fun a20 =>
  st (a20.add 2) (.int .i64 1) w2 fun w3 =>
  nn x0 fun a21 =>
  ldS (a21.add 2) w3 fun p22 l22 c22 =>
  idx p22 l22 n9 3 fun a23 =>
  ldI .u32 (a23.add 1) w3 fun n24 =>
  call Try.prog 30 #[.int .i64 n9, .int .u32 n24] w3 fun v25 w4 =>
  asI .u64 v25 fun n26 =>
  R (.int .u64 n26) w4) (
  nn x0 fun a27 =>
  ldI .i64 (a27.add 0) w fun n28 =>
  br (decide ((l4 : Int) ≥ n28)) (
  R (.int .u64 0) w) (
  nn x0 fun a29 =>
  ldS (a29.add 2) w.drew fun p30 l30 c30 =>
  nn x0 fun a31 =>
  ldI .u32 (a31.add 1) w.drew fun n32 =>
  (#[.int .i64 x1, .int .u32 n32, .int .i64 1] : Array Value).size = 3 ∧
  new #[.int .i64 x1, .int .u32 n32, .int .i64 1] 61 w.drew fun k33 w5 =>
  runsS Try.prog (Builtin.append_ #[62, 62] 62 #[.slice p30 l30 c30, .slice (some (⟨k33, 0, none⟩ : Addr)) 1 1]) w5 fun p34 l34 c34 w6 =>
  nn x0 fun a35 =>
  st (a35.add 2) (.slice p34 l34 c34) w6 fun w7 =>
  nn x0 fun a36 =>
  ldI .u32 (a36.add 1) w7 fun n37 =>
  call Try.prog 30 #[.int .i64 ((l4 : Int)), .int .u32 n37] w7 fun v38 w8 =>
  asI .u64 v38 fun n39 =>
  R (.int .u64 n39) w8))
@[irreducible] def tenonref02_Arena_Put_ann : Ann := .seq .none (.seq .none (.seq .none (.seq .none (.seq .none (.seq (.draw [[], [], [1], [1, 2], [1, 2, 3], [], [], [6], [6, 7], [6, 7, 8], [5, 6, 7, 8, 9], [5, 6, 7, 8, 9, 10], [1, 2, 3, 4, 5, 6, 7, 8, 9, 10, 11], [0, 1, 2, 3, 4, 5, 6, 7, 8, 9, 10, 11, 12], [0, 1, 2, 3, 4, 5, 6, 7, 8, 9, 10, 11, 12, 13], [0, 1, 2, 3, 4, 5, 6, 7, 8, 9, 10, 11, 12, 13, 14]] (ol [0, 1, 2, 3, 4, 5, 6, 7, 8, 9, 10, 11, 12, 13, 14, 15] .nil)) .none)))))
theorem tenonref02_Arena_Put_call {x0 : Option Addr} {x1 : Int} {R : Value → World → Prop} {w : World} (h : tenonref02_Arena_Put x0 x1 R w) : call Try.prog 28 #[.pointer x0, .int .i64 x1] w R :=
  call_of_fnW plain mixed Try.func28 tenonref02_Arena_Put_ann (Eq.mp (by kernel_rfl : tenonref02_Arena_Put x0 x1 R w = fnW Try.prog Try.f28 tenonref02_Arena_Put_ann #[.pointer x0, .int .i64 x1] R w) h)

def tenonref02_Arena_Drop (x0 : Option Addr) (x1 : Int) (R : Value → World → Prop) (w : World) : Prop :=
  nn x0 fun a1 =>
  ldS (a1.add 2) w fun p2 l2 c2 =>
  idx p2 l2 x1 3 fun a3 =>
  st (a3.add 0) (.int .i64 0) w fun w1 =>
  nn x0 fun a4 =>
  ldS (a4.add 2) w1 fun p5 l5 c5 =>
  idx p5 l5 x1 3 fun a6 =>
  ldI .u32 (a6.add 1) w1 fun n7 =>
  br ((n7 : Int) == 4294967295) (
  nn x0 fun a8 =>
  ldS (a8.add 2) w1 fun p9 l9 c9 =>
  idx p9 l9 x1 3 fun a10 =>
  st (a10.add 2) (.int .i64 2) w1 fun w2 =>
  R (.tuple #[]) w2) (
  nn x0 fun a11 =>
  ldS (a11.add 2) w1 fun p12 l12 c12 =>
  idx p12 l12 x1 3 fun a13 =>
  st (a13.add 2) (.int .i64 0) w1 fun w3 =>
  nn x0 fun a14 =>
  ldS (a14.add 2) w3 fun p15 l15 c15 =>
  idx p15 l15 x1 3 fun a16 =>
  ldI .u32 (a16.add 1) w3 fun n17 =>
  arith .u32 (n17 + 1) fun n18 =>
  idx p15 l15 x1 3 fun a19 =>
  st (a19.add 1) (.int .u32 n18) w3 fun w4 =>
  nn x0 fun a20 =>
  ldS (a20.add 3) w4 fun p21 l21 c21 =>
  new #[.int .i64 x1] 3 w4 fun k22 w5 =>
  runsS Try.prog (Builtin.append_ #[43, 43] 43 #[.slice p21 l21 c21, .slice (some (⟨k22, 0, none⟩ : Addr)) 1 1]) w5 fun p23 l23 c23 w6 =>
  nn x0 fun a24 =>
  st (a24.add 3) (.slice p23 l23 c23) w6 fun w7 =>
  R (.tuple #[]) w7)
@[irreducible] def tenonref02_Arena_Drop_ann : Ann := .none
theorem tenonref02_Arena_Drop_call {x0 : Option Addr} {x1 : Int} {R : Value → World → Prop} {w : World} (h : tenonref02_Arena_Drop x0 x1 R w) : call Try.prog 29 #[.pointer x0, .int .i64 x1] w R :=
  call_of_fnW plain mixed Try.func29 tenonref02_Arena_Drop_ann (Eq.mp (by kernel_rfl : tenonref02_Arena_Drop x0 x1 R w = fnW Try.prog Try.f29 tenonref02_Arena_Drop_ann #[.pointer x0, .int .i64 x1] R w) h)

def tenonref02_Handle (x0 : Int) (x1 : Int) (R : Value → World → Prop) (w : World) : Prop :=
  arith .u64 x1 fun n1 =>
  arith .u64 (n1 * 4294967296) fun n2 =>
  arith .u64 x0 fun n3 =>
  arith .u64 (n2 + n3) fun n4 =>
  arith .u64 (n4 + 1) fun n5 =>
  R (.int .u64 n5) w
@[irreducible] def tenonref02_Handle_ann : Ann := .none
theorem tenonref02_Handle_call {x0 : Int} {x1 : Int} {R : Value → World → Prop} {w : World} (h : tenonref02_Handle x0 x1 R w) : call Try.prog 30 #[.int .i64 x0, .int .u32 x1] w R :=
  call_of_fnW plain mixed Try.func30 tenonref02_Handle_ann (Eq.mp (by kernel_rfl : tenonref02_Handle x0 x1 R w = fnW Try.prog Try.f30 tenonref02_Handle_ann #[.int .i64 x0, .int .u32 x1] R w) h)

def arena_Arena_All (x0 : Option Addr) (R : Value → World → Prop) (w : World) : Prop :=
  new #[.pointer x0] 23 w fun k1 w1 =>
  R (.func (.func 32) #[] #[.pointer (some (⟨k1, 0, none⟩ : Addr))]) w1
@[irreducible] def arena_Arena_All_ann : Ann := .none
theorem arena_Arena_All_call {x0 : Option Addr} {R : Value → World → Prop} {w : World} (h : arena_Arena_All x0 R w) : call Try.prog 31 #[.pointer x0] w R :=
  call_of_fnW plain mixed Try.func31 arena_Arena_All_ann (Eq.mp (by kernel_rfl : arena_Arena_All x0 R w = fnW Try.prog Try.f31 arena_Arena_All_ann #[.pointer x0] R w) h)

def arena_Arena_All_1 (x0 : Fn) (y0 z0 : Array Value) (x1 : Addr) (R : Value → World → Prop) (w : World) : Prop :=
  ldP x1 w fun p1 =>
  br p1.isNone (
  R (.tuple #[]) w) (
  new #[] 72 w fun k2 w1 =>
  ldP x1 w1 fun p3 =>
  nn p3 fun a4 =>
  ldS (a4.add 2) w1 fun p5 l5 c5 =>
  runsS Try.prog (Builtin.append_ #[68, 68] 68 #[.slice (some (⟨k2, 0, none⟩ : Addr)) 0 0, .slice p5 l5 c5]) w1 fun p6 l6 c6 w2 =>
  ∃ I7 : Int → World → Nat → Prop, (∃ m8, I7 0 w2 m8) ∧
  ∀ (u9 : Nat → Value) (n10 : Int) (w3 : World) (m11 : Nat), I7 n10 w3 m11 →
  br (decide ((n10 : Int) < (l6 : Int))) (
  idx p6 l6 n10 3 fun a12 =>
  ldA a12 3 w3 fun g13 =>
  new #[.int .i64 0, .int .u32 0, .bool false] 72 w3 fun k14 w4 =>
  stA Try.prog (⟨k14, 0, none⟩ : Addr) 3 g13 w4 fun w5 =>
  ldB ((⟨k14, 0, none⟩ : Addr).add 2) w5.drew fun b15 =>
  br b15 (
  ldI .u32 ((⟨k14, 0, none⟩ : Addr).add 1) w5.drew fun n16 =>
  ldI .i64 ((⟨k14, 0, none⟩ : Addr).add 0) w5.drew fun n17 =>
  call Try.prog 26 #[.int .i64 n10, .int .u32 n16] w5.drew fun v18 w6 =>
  asI .u64 v18 fun n19 =>
  w6.cell? ((⟨k14, 0, none⟩ : Addr).add 0) = some (.int .i64 n17) ∧
  callV Try.prog x0 y0 z0 #[.int .u64 n19, .int .i64 n17] w6 fun v20 w7 =>
  asB v20 fun b21 =>
  br (!b21) (
  R (.tuple #[]) w7) (
  arith .i64 (n10 + 1) fun n22 =>
  ∃ m23, m23 < m11 ∧ I7 n22 w7 m23)) (
  arith .i64 (n10 + 1) fun n24 =>
  ∃ m25, m25 < m11 ∧ I7 n24 w5.drew m25)) (
  R (.tuple #[]) w3))
@[irreducible] def arena_Arena_All_1_ann : Ann := .seq .none (.seq .none (.one (.loop [(14, .int .i64)] (.seq .none (.seq .none (.seq (.one (.seq .none (.seq (.draw [[], [0], [0, 1], [0, 1, 2], [0, 1, 2], [0, 1, 2], [0, 1, 2, 5], [0, 1, 2, 4, 5, 6], [0, 1, 2], [0, 1, 2, 8], [0, 1, 2, 3, 4, 5, 6, 7, 8, 9], [0, 1, 2, 3, 4, 5, 6, 7, 8, 9, 10], [0, 1, 2, 3, 4, 5, 6, 7, 8, 9, 10, 11]] (ol [0, 1, 2, 3, 4, 5, 6, 8, 9, 7, 10, 11, 12] .nil)) .none))) .none))))))
theorem arena_Arena_All_1_call {x0 : Fn} {y0 z0 : Array Value} {x1 : Addr} {R : Value → World → Prop} {w : World} (h : arena_Arena_All_1 x0 y0 z0 x1 R w) : call Try.prog 32 #[.func x0 y0 z0, .pointer (some x1)] w R :=
  call_of_fnW plain mixed Try.func32 arena_Arena_All_1_ann (Eq.mp (by kernel_rfl : arena_Arena_All_1 x0 y0 z0 x1 R w = fnW Try.prog Try.f32 arena_Arena_All_1_ann #[.func x0 y0 z0, .pointer (some x1)] R w) h)

end Go.Proofs.Ytifcjbgkcgbefaa
