/- The shallow forms of the functions of the translation, printed by a program of this repository, each proved sound. No conditions. -/
import Derived.Test.YtgchemgnmijpdaaChecked
import Derived.Test.YtgchemgnmijpdaaSp5
import Derived.Eval
set_option linter.unusedVariables false
namespace Go.Proofs.Ytgchemgnmijpdaa
open Go.Sp
theorem plain : Plain Try.prog := by
  have h : (Try.prog.funcs.toList.all fun fn => !(fn.name == "runtime.NumGoroutine")) = true := by kernel_rfl
  intro f fn hf
  have := List.all_eq_true.1 h fn (by simpa using Array.mem_of_getElem? hf)
  simpa using this
theorem mixed : Try.prog.follows .mixedOrders = true := Checked.mixed Try.checked
abbrev T_api_Errno : Nat := 24
abbrev T_api_Link : Nat := 35
abbrev T_tenonlaw11_Act : Nat := 47
abbrev T_api_Graph : Nat := 61
abbrev T_tenonlaw11_Pair : Nat := 64
abbrev T_tenonref11_Heap : Nat := 70
abbrev T_heap_Heap : Nat := 86
abbrev T_heap_object : Nat := 88
abbrev T_heap_fall : Nat := 95
abbrev T_iter_Seq_uint64_ : Nat := 100
abbrev T_tenonref11_Object : Nat := 116
abbrev T_iter_Seq2_int_api_Link_ : Nat := 119
abbrev T_tenonref02_Arena : Nat := 123
abbrev T_tenonref02_Spot : Nat := 125
abbrev T_arena_Arena_heap_object_ : Nat := 133
abbrev T_arena_spot_heap_object_ : Nat := 135
abbrev T_iter_Seq2_uint64_heap_object_ : Nat := 140
abbrev T_int64 : Nat := 2
abbrev T_int : Nat := 3
abbrev T_bool : Nat := 4
abbrev T_uint8 : Nat := 5
abbrev T_string : Nat := 9
abbrev T_uintptr : Nat := 12
abbrev T_int32 : Nat := 21
abbrev T_uint32 : Nat := 27
abbrev T_sl_uint64 : Nat := 28
abbrev T_uint64 : Nat := 29
abbrev T_sl_int : Nat := 43
abbrev T_sl_tenonlaw11_Act : Nat := 45
abbrev T_sl_uint32 : Nat := 58
abbrev T_sl_sl_int : Nat := 59
abbrev T_sl_ptr_tenonref11_Object : Nat := 68
abbrev T_sl_api_Link : Nat := 78
abbrev T_map_uint64_int : Nat := 117
abbrev T_sl_tenonref02_Spot : Nat := 121
abbrev T_map_uint64_struct : Nat := 127
abbrev T_sl_arena_spot_ptr_heap_object : Nat := 131
abbrev T_sl_ptr_heap_object : Nat := 137
abbrev T_uint : Nat := 147
abbrev T_ptr_uint8 : Nat := 163
abbrev fn_tenonlaw11_HeapChain : Nat := 3
abbrev fn_tenonlaw11_HeapInners : Nat := 4
abbrev fn_tenonlaw11_HeapForeign : Nat := 5
abbrev fn_tenonlaw11_HeapCounts : Nat := 6
abbrev fn_tenonlaw11_HeapPlays : Nat := 7
abbrev fn_tenonlaw11_HeapTells : Nat := 8
abbrev fn_tenonlaw11_HeapNil : Nat := 9
abbrev fn_tenonref01_Pick : Nat := 10
abbrev fn_heap_New : Nat := 11
abbrev fn_heap_Heap_Make : Nat := 12
abbrev fn_heap_Heap_Put : Nat := 13
abbrev fn_heap_Heap_Down : Nat := 14
abbrev fn_heap_Heap_Up : Nat := 15
abbrev fn_tenonref01_SameLongs : Nat := 16
abbrev fn_tenonlaw11_all : Nat := 17
abbrev fn_tenonlaw11_awake : Nat := 18
abbrev fn_heap_Heap_Count : Nat := 19
abbrev fn_tenonlaw11_counted : Nat := 20
abbrev fn_tenonref11_New : Nat := 21
abbrev fn_tenonlaw11_begun : Nat := 22
abbrev fn_tenonlaw11_Pair_do : Nat := 23
abbrev fn_tenonlaw11_Pair_alike : Nat := 24
abbrev fn_heap_Heap_Graph : Nat := 25
abbrev fn_tenonref11_Heap_Graph : Nat := 26
abbrev fn_tenonref11_SameGraph : Nat := 27
abbrev fn_tenonref02_Arena_All : Nat := 28
abbrev fn_heap_Heap_Value : Nat := 29
abbrev fn_heap_Heap_Whole : Nat := 30
abbrev fn_heap_Heap_Remove : Nat := 31
abbrev fn_heap_Heap_Store : Nat := 32
abbrev fn_tenonlaw11_links : Nat := 33
abbrev fn_arena_New : Nat := 34
abbrev fn_heap_Heap_find : Nat := 35
abbrev fn_arena_Arena_Put : Nat := 36
abbrev fn_heap_right : Nat := 37
abbrev fn_heap_fall_let : Nat := 38
abbrev fn_heap_fall_run : Nat := 39
abbrev fn_heap_Heap_whole : Nat := 40
abbrev fn_heap_Heap_All : Nat := 41
abbrev fn_tenonref02_New : Nat := 42
abbrev fn_tenonlaw11_Pair_given : Nat := 43
abbrev fn_tenonref11_Heap_Make : Nat := 44
abbrev fn_tenonref11_Heap_Up : Nat := 45
abbrev fn_tenonref11_Heap_Down : Nat := 46
abbrev fn_tenonlaw11_Pair_link : Nat := 47
abbrev fn_tenonref11_Heap_Put : Nat := 48
abbrev fn_tenonref11_Heap_Remove : Nat := 49
abbrev fn_tenonref11_Heap_Find : Nat := 50
abbrev fn_tenonref11_Heap_Whole : Nat := 51
abbrev fn_heap_Heap_Links : Nat := 52
abbrev fn_tenonref02_Handle : Nat := 53
abbrev fn_slices_Clone : Nat := 54
abbrev fn_arena_Arena_Get : Nat := 55
abbrev fn_arena_handle : Nat := 56
abbrev fn_arena_Arena_Drop : Nat := 57
abbrev fn_heap_Heap_All_1 : Nat := 58
abbrev fn_arena_Arena_All : Nat := 59
abbrev fn_tenonref02_Arena_Put : Nat := 60
abbrev fn_tenonref11_Heap_Go : Nat := 61
abbrev fn_heap_Heap_Links_1 : Nat := 62
abbrev fn_slices_Clone_1 : Nat := 63
abbrev fn_arena_Arena_find : Nat := 64
abbrev fn_arena_Arena_All_1 : Nat := 65
abbrev fn_tenonref11_Heap_away : Nat := 66
abbrev fn_arena_Split : Nat := 67
abbrev fn_tenonref02_Arena_Drop : Nat := 68
abbrev fn_tenonref02_Arena_At : Nat := 69

def tenonlaw11_HeapChain (x0 : Int) (x1 : Int) (R : Value → World → Prop) (w : World) : Prop :=
  call Try.prog 10 #[.int .i64 x0, .int .i64 100] w fun v1 w1 =>
  asI .i64 v1 fun n2 =>
  arith .i64 (1 + n2) fun n3 =>
  call Try.prog 11 #[.int .i64 100, .int .u32 9] w1 fun v4 w2 =>
  ∃ (p5 : Option Addr) (n6 : Int),
  v4 = .tuple #[.pointer p5, .int .i64 n6] ∧
  br ((n6 : Int) != 0) (
  R (.bool false) w2) (
  ∃ I7 : Option Addr → Nat → Nat → Int → World → Nat → Prop, (∃ m8, I7 none 0 0 0 w2 m8) ∧
  ∀ (u9 : Nat → Value) (p10 : Option Addr) (l10 c10 : Nat) (n11 : Int) (w3 : World) (m12 : Nat), I7 p10 l10 c10 n11 w3 m12 →
  br (decide ((n11 : Int) < n3)) (
  call Try.prog 12 #[.pointer p5, .int .i64 1, .int .u64 0] w3 fun v13 w4 =>
  ∃ (n14 : Int) (n15 : Int),
  v13 = .tuple #[.int .u64 n14, .int .i64 n15] ∧
  br ((n15 : Int) != 0) (
  R (.bool false) w4) (
  new #[.int .u64 n14] 29 w4 fun k16 w5 =>
  runsS Try.prog (Builtin.append_ #[28, 28] 28 #[.slice p10 l10 c10, .slice (some (⟨k16, 0, none⟩ : Addr)) 1 1]) w5 fun p17 l17 c17 w6 =>
  br (decide ((n11 : Int) > 0)) (
  arith .i64 (n11 - 1) fun n18 =>
  idx p17 l17 n18 1 fun a19 =>
  ldI .u64 a19 w6 fun n20 =>
  call Try.prog 13 #[.pointer p5, .int .u64 n20, .int .i64 0, .agg #[.int .i64 1, .int .u64 n14]] w6 fun v21 w7 =>
  ∃ (p22 : Option Addr) (l22 c22 : Nat) (p23 : Option Addr) (l23 c23 : Nat) (n24 : Int),
  v21 = .tuple #[.slice p22 l22 c22, .slice p23 l23 c23, .int .i64 n24] ∧
  call Try.prog 14 #[.pointer p5, .int .u64 n14] w7 fun v25 w8 =>
  ∃ (p26 : Option Addr) (l26 c26 : Nat) (p27 : Option Addr) (l27 c27 : Nat) (n28 : Int),
  v25 = .tuple #[.slice p26 l26 c26, .slice p27 l27 c27, .int .i64 n28] ∧
  arith .i64 (n11 + 1) fun n29 =>
  ∃ m30, m30 < m12 ∧ I7 p17 l17 c17 n29 w8 m30) (
  arith .i64 (n11 + 1) fun n31 =>
  ∃ m32, m32 < m12 ∧ I7 p17 l17 c17 n31 w6 m32))) (
  arith .i64 (n3 + 1) fun n33 =>
  call Try.prog 10 #[.int .i64 x1, .int .i64 n33] w3 fun v34 w9 =>
  asI .i64 v34 fun n35 =>
  ∃ J36 : World → Prop, (
  br (decide ((n35 : Int) < n3)) (
  idx p10 l10 n35 1 fun a37 =>
  ldI .u64 a37 w9 fun n38 =>
  call Try.prog 15 #[.pointer p5, .int .u64 n38] w9 fun v39 w10 =>
  ∃ (n40 : Int) (n41 : Int),
  v39 = .tuple #[.int .u32 n40, .int .i64 n41] ∧
  J36  w10) (
  J36  w9)) ∧
  ∀ (u42 : Nat → Value)  (w11 : World), J36  w11 →
  idx p10 l10 0 1 fun a43 =>
  ldI .u64 a43 w11 fun n44 =>
  call Try.prog 14 #[.pointer p5, .int .u64 n44] w11 fun v45 w12 =>
  ∃ (p46 : Option Addr) (l46 c46 : Nat) (p47 : Option Addr) (l47 c47 : Nat) (n48 : Int),
  v45 = .tuple #[.slice p46 l46 c46, .slice p47 l47 c47, .int .i64 n48] ∧
  br ((n48 : Int) == 0) (
  slc p10 c10 1 0 n35 fun p49 l49 c49 =>
  call Try.prog 16 #[.slice p46 l46 c46, .slice p49 l49 c49] w12.drew fun v50 w13 =>
  asB v50 fun b51 =>
  br b51 (
  br ((l47 : Int) == 0) (
  slc p10 c10 1 n35 ((l10 : Int)) fun p52 l52 c52 =>
  call Try.prog 17 #[.pointer p5, .int .i64 999] w13 fun v53 w14 =>
  asS v53 fun p54 l54 c54 =>
  call Try.prog 16 #[.slice p54 l54 c54, .slice p52 l52 c52] w14 fun v55 w15 =>
  asB v55 fun b56 =>
  br b56 (
  call Try.prog 18 #[] w15 fun v57 w16 =>
  asB v57 fun b58 =>
  R (.bool b58) w16) (
  R (.bool false) w15)) (
  R (.bool false) w13)) (
  R (.bool false) w13)) (
  R (.bool false) w12.drew)))
@[irreducible] def tenonlaw11_HeapChain_ann : Ann := .seq .none (.seq .none (.seq .none (.seq .none (.seq .none (.seq (.seq .none (.one (.loop [(7, .slice), (8, .int .i64)] .none))) (.seq .none (.meet [] .none (.seq .none (.seq (.draw [[], [0], [0, 1], [0, 1, 2], [0, 1, 2], [0, 1, 2], [0, 1, 2, 4, 5], [0, 1, 2, 3, 4, 5, 6], [0, 1, 2, 3, 4, 5, 6, 7], [0, 1, 2, 3, 4, 5, 6, 7, 8], [0, 1, 2, 3, 4, 5, 6, 7, 8, 9], [0, 1, 2, 3, 4, 5, 6, 7, 8, 9, 10], [0, 1, 2, 3, 4, 5, 6, 7, 8, 9, 10, 11], [0, 1, 2, 3, 4, 5, 6, 7, 8, 9, 10, 11, 12], [0, 1, 2, 3, 4, 5, 6, 7, 8, 9, 10, 11, 12, 13], [0, 1, 2, 3, 4, 5, 6, 7, 8, 9, 10, 11, 12, 13, 14], [0, 1, 2, 3, 4, 5, 6, 7, 8, 9, 10, 11, 12, 13, 14, 15], [0, 1, 2, 3, 4, 5, 6, 7, 8, 9, 10, 11, 12, 13, 14], [0, 1, 2, 3, 4, 5, 6, 7, 8, 9, 10, 11, 12, 13, 14], [0, 1, 2, 3, 4, 5, 6, 7, 8, 9, 10, 11, 12, 13, 14, 17, 18], [0, 1, 2, 3, 4, 5, 6, 7, 8, 9, 10, 11, 12, 13, 14, 15, 16, 17, 18, 19], [0, 1, 2, 3, 4, 5, 6, 7, 8, 9, 10, 11, 12, 13, 14, 15, 16, 17, 18, 19, 20], [0, 1, 2, 3, 4, 5, 6, 7, 8, 9, 10, 11, 12, 13, 14, 15, 16, 17, 18, 19, 20, 21], [0, 1, 2, 3, 4, 5, 6, 7, 8, 9, 10, 11, 12, 13, 14, 15, 16, 17, 18, 19, 20, 21, 22], [0, 1, 2, 3, 4, 5, 6, 7, 8, 9, 10, 11, 12, 13, 14, 15, 16, 17, 18, 19, 20, 21, 22, 23], [0, 1, 2, 3, 4, 5, 6, 7, 8, 9, 10, 11, 12, 13, 14, 15, 16, 17, 18, 19, 20, 21, 22, 23, 24]] (ol [0, 1, 2, 3, 4, 5, 6, 7, 8, 9, 10, 11, 12, 13, 14, 15, 17, 18, 19, 16, 20, 21, 22, 23, 24, 25] .nil)) .none)))))))))
theorem tenonlaw11_HeapChain_call {x0 : Int} {x1 : Int} {R : Value → World → Prop} {w : World} (h : tenonlaw11_HeapChain x0 x1 R w) : call Try.prog 3 #[.int .i64 x0, .int .i64 x1] w R :=
  call_of_fnW plain mixed Try.func3 tenonlaw11_HeapChain_ann (Eq.mp (by kernel_rfl : tenonlaw11_HeapChain x0 x1 R w = fnW Try.prog Try.f3 tenonlaw11_HeapChain_ann #[.int .i64 x0, .int .i64 x1] R w) h)

def tenonlaw11_HeapInners (x0 : Int) (x1 : Option Addr) (y1 z1 : Nat) (R : Value → World → Prop) (w : World) : Prop :=
  call Try.prog 11 #[.int .i64 40, .int .u32 99] w fun v1 w1 =>
  ∃ (p2 : Option Addr) (n3 : Int),
  v1 = .tuple #[.pointer p2, .int .i64 n3] ∧
  call Try.prog 12 #[.pointer p2, .int .i64 0, .int .u64 0] w1 fun v4 w2 =>
  ∃ (n5 : Int) (n6 : Int),
  v4 = .tuple #[.int .u64 n5, .int .i64 n6] ∧
  br ((n3 : Int) != 0) (
  R (.bool false) w2) (
  br ((n6 : Int) != 0) (
  R (.bool false) w2) (
  new #[.int .u64 n5] 29 w2 fun k7 w3 =>
  ∃ I8 : Option Addr → Nat → Nat → Int → World → Nat → Prop, (∃ m9, I8 (some (⟨k7, 0, none⟩ : Addr)) 1 1 0 w3 m9) ∧
  ∀ (u10 : Nat → Value) (p11 : Option Addr) (l11 c11 : Nat) (n12 : Int) (w4 : World) (m13 : Nat), I8 p11 l11 c11 n12 w4 m13 →
  rem x0 30 fun n14 =>
  arith .i64 n14 fun n15 =>
  br (decide ((n12 : Int) < n15)) (
  call Try.prog 12 #[.pointer p2, .int .i64 1, .int .u64 n5] w4 fun v16 w5 =>
  ∃ (n17 : Int) (n18 : Int),
  v16 = .tuple #[.int .u64 n17, .int .i64 n18] ∧
  br ((n18 : Int) != 0) (
  R (.bool false) w5) (
  call Try.prog 12 #[.pointer p2, .int .i64 1, .int .u64 n17] w5 fun v19 w6 =>
  ∃ (n20 : Int) (n21 : Int),
  v19 = .tuple #[.int .u64 n20, .int .i64 n21] ∧
  br ((n21 : Int) != 1) (
  R (.bool false) w6) (
  new #[.int .u64 n17] 29 w6 fun k22 w7 =>
  runsS Try.prog (Builtin.append_ #[28, 28] 28 #[.slice p11 l11 c11, .slice (some (⟨k22, 0, none⟩ : Addr)) 1 1]) w7 fun p23 l23 c23 w8 =>
  arith .i64 (n12 + 1) fun n24 =>
  ∃ m25, m25 < m13 ∧ I8 p23 l23 c23 n24 w8 m25))) (
  ∃ J26 : Int → World → Prop, (
  ∃ I27 : Int → Int → World → Nat → Prop, (∃ m28, I27 0 0 w4 m28) ∧
  ∀ (u29 : Nat → Value) (n30 : Int) (n31 : Int) (w9 : World) (m32 : Nat), I27 n30 n31 w9 m32 →
  br (decide ((n31 : Int) < (y1 : Int))) (
  br (decide ((n31 : Int) < 50)) (
  idx x1 y1 n31 1 fun a33 =>
  ldI .i64 a33 w9 fun n34 =>
  call Try.prog 10 #[.int .i64 n34, .int .i64 ((l11 : Int))] w9 fun v35 w10 =>
  asI .i64 v35 fun n36 =>
  idx p11 l11 n36 1 fun a37 =>
  ldI .u64 a37 w10 fun n38 =>
  call Try.prog 15 #[.pointer p2, .int .u64 n38] w10 fun v39 w11 =>
  ∃ (n40 : Int) (n41 : Int),
  v39 = .tuple #[.int .u32 n40, .int .i64 n41] ∧
  arith .i64 (n30 + 1) fun n42 =>
  br ((n41 : Int) != 0) (
  R (.bool false) w11) (
  arith .i64 n40 fun n43 =>
  arith .i64 (1 + n42) fun n44 =>
  br ((n43 : Int) != n44) (
  R (.bool false) w11) (
  arith .i64 (n31 + 1) fun n45 =>
  ∃ m46, m46 < m32 ∧ I27 n42 n45 w11 m46))) (
  J26 n30 w9)) (
  J26 n30 w9)) ∧
  ∀ (u47 : Nat → Value) (n48 : Int) (w12 : World), J26 n48 w12 →
  ∃ I49 : Int → World → Nat → Prop, (∃ m50, I49 0 w12 m50) ∧
  ∀ (u51 : Nat → Value) (n52 : Int) (w13 : World) (m53 : Nat), I49 n52 w13 m53 →
  br (decide ((n52 : Int) < n48)) (
  arith .i64 (n48 - 1) fun n54 =>
  arith .i64 (n54 - n52) fun n55 =>
  idx x1 y1 n55 1 fun a56 =>
  ldI .i64 a56 w13 fun n57 =>
  call Try.prog 10 #[.int .i64 n57, .int .i64 ((l11 : Int))] w13 fun v58 w14 =>
  asI .i64 v58 fun n59 =>
  idx p11 l11 n59 1 fun a60 =>
  ldI .u64 a60 w14 fun n61 =>
  call Try.prog 14 #[.pointer p2, .int .u64 n61] w14 fun v62 w15 =>
  ∃ (p63 : Option Addr) (l63 c63 : Nat) (p64 : Option Addr) (l64 c64 : Nat) (n65 : Int),
  v62 = .tuple #[.slice p63 l63 c63, .slice p64 l64 c64, .int .i64 n65] ∧
  br ((n65 : Int) != 0) (
  R (.bool false) w15) (
  br ((l63 : Int) != 0) (
  R (.bool false) w15) (
  arith .i64 (n52 + 1) fun n66 =>
  ∃ m67, m67 < m53 ∧ I49 n66 w15 m67))) (
  arith .i64 ((l11 : Int) - 1) fun n68 =>
  idx p11 l11 n68 1 fun a69 =>
  ldI .u64 a69 w13 fun n70 =>
  call Try.prog 14 #[.pointer p2, .int .u64 n70] w13 fun v71 w16 =>
  ∃ (p72 : Option Addr) (l72 c72 : Nat) (p73 : Option Addr) (l73 c73 : Nat) (n74 : Int),
  v71 = .tuple #[.slice p72 l72 c72, .slice p73 l73 c73, .int .i64 n74] ∧
  br ((n74 : Int) == 0) (
  call Try.prog 16 #[.slice p72 l72 c72, .slice p11 l11 c11] w16 fun v75 w17 =>
  asB v75 fun b76 =>
  br b76 (
  call Try.prog 17 #[.pointer p2, .int .i64 9] w17 fun v77 w18 =>
  asS v77 fun p78 l78 c78 =>
  br ((l78 : Int) == 0) (
  call Try.prog 18 #[] w18 fun v79 w19 =>
  asB v79 fun b80 =>
  R (.bool b80) w19) (
  R (.bool false) w18)) (
  R (.bool false) w17)) (
  R (.bool false) w16)))))
@[irreducible] def tenonlaw11_HeapInners_ann : Ann := .seq .none (.seq .none (.seq .none (.seq .none (.seq .none (.seq (.seq .none (.one (.loop [(9, .slice), (10, .int .i64)] .none))) (.seq .none (.meet [(15, .int .i64)] (.seq .none (.one (.loop [(15, .int .i64), (16, .int .i64)] .none))) (.seq (.seq .none (.one (.loop [(19, .int .i64)] .none))) .none))))))))
theorem tenonlaw11_HeapInners_call {x0 : Int} {x1 : Option Addr} {y1 z1 : Nat} {R : Value → World → Prop} {w : World} (h : tenonlaw11_HeapInners x0 x1 y1 z1 R w) : call Try.prog 4 #[.int .u8 x0, .slice x1 y1 z1] w R :=
  call_of_fnW plain mixed Try.func4 tenonlaw11_HeapInners_ann (Eq.mp (by kernel_rfl : tenonlaw11_HeapInners x0 x1 y1 z1 R w = fnW Try.prog Try.f4 tenonlaw11_HeapInners_ann #[.int .u8 x0, .slice x1 y1 z1] R w) h)

def tenonlaw11_HeapForeign (x0 : Option Addr) (y0 z0 : Nat) (R : Value → World → Prop) (w : World) : Prop :=
  call Try.prog 11 #[.int .i64 100, .int .u32 9] w fun v1 w1 =>
  ∃ (p2 : Option Addr) (n3 : Int),
  v1 = .tuple #[.pointer p2, .int .i64 n3] ∧
  br ((n3 : Int) != 0) (
  R (.bool false) w1) (
  ∃ J4 : Option Addr → Nat → Nat → Int → Int → World → Prop, (
  ∃ I5 : Option Addr → Nat → Nat → Int → Int → Int → World → Nat → Prop, (∃ m6, I5 none 0 0 0 0 0 w1 m6) ∧
  ∀ (u7 : Nat → Value) (p8 : Option Addr) (l8 c8 : Nat) (n9 : Int) (n10 : Int) (n11 : Int) (w2 : World) (m12 : Nat), I5 p8 l8 c8 n9 n10 n11 w2 m12 →
  br (decide ((n11 : Int) < (y0 : Int))) (
  br (decide ((n11 : Int) < 60)) (
  idx x0 y0 n11 5 fun a13 =>
  ldA a13 5 w2 fun g14 =>
  new #[.int .i64 0, .int .i64 0, .int .i64 0, .int .i64 0, .int .u64 0] 47 w2 fun k15 w3 =>
  stA Try.prog (⟨k15, 0, none⟩ : Addr) 5 g14 w3 fun w4 =>
  br ((l8 : Int) == 0) (
  call Try.prog 12 #[.pointer p2, .int .i64 3, .int .u64 0] w4 fun v16 w5 =>
  ∃ (n17 : Int) (n18 : Int),
  v16 = .tuple #[.int .u64 n17, .int .i64 n18] ∧
  br ((n18 : Int) == 0) (
  new #[.int .u64 n17] 29 w5 fun k19 w6 =>
  runsS Try.prog (Builtin.append_ #[28, 28] 28 #[.slice p8 l8 c8, .slice (some (⟨k19, 0, none⟩ : Addr)) 1 1]) w6 fun p20 l20 c20 w7 =>
  arith .i64 (n11 + 1) fun n21 =>
  ∃ m22, m22 < m12 ∧ I5 p20 l20 c20 n9 n10 n21 w7 m22) (
  arith .i64 (n11 + 1) fun n23 =>
  ∃ m24, m24 < m12 ∧ I5 p8 l8 c8 n9 n10 n23 w5 m24)) (
  ldI .i64 ((⟨k15, 0, none⟩ : Addr).add 0) w4 fun n25 =>
  br ((bitw .and .i64 n25 3 : Int) == 0) (
  call Try.prog 12 #[.pointer p2, .int .i64 3, .int .u64 0] w4 fun v26 w8 =>
  ∃ (n27 : Int) (n28 : Int),
  v26 = .tuple #[.int .u64 n27, .int .i64 n28] ∧
  br ((n28 : Int) == 0) (
  new #[.int .u64 n27] 29 w8 fun k29 w9 =>
  runsS Try.prog (Builtin.append_ #[28, 28] 28 #[.slice p8 l8 c8, .slice (some (⟨k29, 0, none⟩ : Addr)) 1 1]) w9 fun p30 l30 c30 w10 =>
  arith .i64 (n11 + 1) fun n31 =>
  ∃ m32, m32 < m12 ∧ I5 p30 l30 c30 n9 n10 n31 w10 m32) (
  arith .i64 (n11 + 1) fun n33 =>
  ∃ m34, m34 < m12 ∧ I5 p8 l8 c8 n9 n10 n33 w8 m34)) (
  ldI .i64 ((⟨k15, 0, none⟩ : Addr).add 2) w4 fun n35 =>
  call Try.prog 10 #[.int .i64 n35, .int .i64 ((l8 : Int))] w4 fun v36 w11 =>
  asI .i64 v36 fun n37 =>
  ldI .i64 ((⟨k15, 0, none⟩ : Addr).add 0) w11 fun n38 =>
  br ((bitw .and .i64 n38 3 : Int) == 1) (
  idx p8 l8 n37 1 fun a39 =>
  ldI .u64 a39 w11 fun n40 =>
  call Try.prog 14 #[.pointer p2, .int .u64 n40] w11 fun v41 w12 =>
  ∃ (p42 : Option Addr) (l42 c42 : Nat) (p43 : Option Addr) (l43 c43 : Nat) (n44 : Int),
  v41 = .tuple #[.slice p42 l42 c42, .slice p43 l43 c43, .int .i64 n44] ∧
  br ((n44 : Int) != 0) (
  R (.bool false) w12) (
  arith .u64 ((l43 : Int)) fun n45 =>
  arith .u64 (n10 + n45) fun n46 =>
  arith .i64 ((l8 : Int) - 1) fun n47 =>
  idx p8 l8 n47 1 fun a48 =>
  ldI .u64 a48 w12 fun n49 =>
  idx p8 l8 n37 1 fun a50 =>
  st a50 (.int .u64 n49) w12 fun w13 =>
  arith .i64 ((l8 : Int) - 1) fun n51 =>
  slc p8 c8 1 0 n51 fun p52 l52 c52 =>
  arith .i64 (n11 + 1) fun n53 =>
  ∃ m54, m54 < m12 ∧ I5 p52 l52 c52 n9 n46 n53 w13 m54)) (
  arith .u64 (n9 + 1) fun n55 =>
  idx p8 l8 n37 1 fun a56 =>
  ldI .u64 a56 w11.drew fun n57 =>
  ldI .i64 ((⟨k15, 0, none⟩ : Addr).add 1) w11.drew fun n58 =>
  call Try.prog 10 #[.int .i64 n58, .int .i64 3] w11.drew fun v59 w14 =>
  asI .i64 v59 fun n60 =>
  w14.cell? a56 = some (.int .u64 n57) ∧
  call Try.prog 13 #[.pointer p2, .int .u64 n57, .int .i64 n60, .agg #[.int .i64 2, .int .u64 n55]] w14 fun v61 w15 =>
  ∃ (p62 : Option Addr) (l62 c62 : Nat) (p63 : Option Addr) (l63 c63 : Nat) (n64 : Int),
  v61 = .tuple #[.slice p62 l62 c62, .slice p63 l63 c63, .int .i64 n64] ∧
  br ((n64 : Int) != 0) (
  R (.bool false) w15) (
  br (decide ((l63 : Int) > 1)) (
  R (.bool false) w15) (
  br ((l63 : Int) == 1) (
  idx p63 l63 0 1 fun a65 =>
  ldI .u64 a65 w15 fun n66 =>
  br (decide ((n66 : Int) ≥ n55)) (
  R (.bool false) w15) (
  arith .u64 ((l63 : Int)) fun n67 =>
  arith .u64 (n10 + n67) fun n68 =>
  arith .i64 (n11 + 1) fun n69 =>
  ∃ m70, m70 < m12 ∧ I5 p8 l8 c8 n55 n68 n69 w15 m70)) (
  arith .u64 ((l63 : Int)) fun n71 =>
  arith .u64 (n10 + n71) fun n72 =>
  arith .i64 (n11 + 1) fun n73 =>
  ∃ m74, m74 < m12 ∧ I5 p8 l8 c8 n55 n72 n73 w15 m74))))))) (
  J4 p8 l8 c8 n9 n10 w2)) (
  J4 p8 l8 c8 n9 n10 w2)) ∧
  ∀ (u75 : Nat → Value) (p76 : Option Addr) (l76 c76 : Nat) (n77 : Int) (n78 : Int) (w16 : World), J4 p76 l76 c76 n77 n78 w16 →
  ∃ I79 : Int → Int → World → Nat → Prop, (∃ m80, I79 n78 0 w16 m80) ∧
  ∀ (u81 : Nat → Value) (n82 : Int) (n83 : Int) (w17 : World) (m84 : Nat), I79 n82 n83 w17 m84 →
  br (decide ((n83 : Int) < (l76 : Int))) (
  idx p76 l76 n83 1 fun a85 =>
  ldI .u64 a85 w17 fun n86 =>
  call Try.prog 14 #[.pointer p2, .int .u64 n86] w17 fun v87 w18 =>
  ∃ (p88 : Option Addr) (l88 c88 : Nat) (p89 : Option Addr) (l89 c89 : Nat) (n90 : Int),
  v87 = .tuple #[.slice p88 l88 c88, .slice p89 l89 c89, .int .i64 n90] ∧
  br ((n90 : Int) != 0) (
  R (.bool false) w18) (
  arith .u64 ((l89 : Int)) fun n91 =>
  arith .u64 (n82 + n91) fun n92 =>
  arith .i64 (n83 + 1) fun n93 =>
  ∃ m94, m94 < m84 ∧ I79 n92 n93 w18 m94)) (
  br ((n82 : Int) == n77) (
  call Try.prog 17 #[.pointer p2, .int .i64 9] w17 fun v95 w19 =>
  asS v95 fun p96 l96 c96 =>
  br ((l96 : Int) == 0) (
  call Try.prog 18 #[] w19 fun v97 w20 =>
  asB v97 fun b98 =>
  R (.bool b98) w20) (
  R (.bool false) w19)) (
  R (.bool false) w17)))
@[irreducible] def tenonlaw11_HeapForeign_ann : Ann := .seq .none (.seq .none (.seq .none (.seq .none (.seq .none (.meet [(5, .slice), (6, .int .u64), (7, .int .u64)] (.seq .none (.one (.loop [(5, .slice), (6, .int .u64), (7, .int .u64), (8, .int .i64)] (.seq .none (.seq (.one (.seq .none (.seq .none (.seq .none (.seq .none (.seq .none (.seq (.draw [[], [], [], [1, 2], [1, 2, 3], [], [5], [5, 6], [], [8], [0, 1, 2, 3, 4, 5, 6, 7, 8, 9], [0, 1, 2, 3, 4, 5, 6, 7, 8, 9, 10], [0, 1, 2, 3, 4, 5, 6, 7, 8, 9, 10, 11], [0, 1, 2, 3, 4, 5, 6, 7, 8, 9, 10, 11], [0, 1, 2, 3, 4, 5, 6, 7, 8, 9, 10, 11], [0, 1, 2, 3, 4, 5, 6, 7, 8, 9, 10, 11, 12], [0, 1, 2, 3, 4, 5, 6, 7, 8, 9, 10, 11, 12, 13, 15], [0, 1, 2, 3, 4, 5, 6, 7, 8, 9, 10, 11, 12, 13, 14, 15, 16]] (ol [0, 1, 2, 3, 4, 5, 6, 8, 9, 7, 10, 11, 12, 13, 14, 15, 16, 17] .nil)) .none))))))) .none))))) (.seq (.seq .none (.one (.loop [(7, .int .u64), (19, .int .i64)] .none))) .none))))))
theorem tenonlaw11_HeapForeign_call {x0 : Option Addr} {y0 z0 : Nat} {R : Value → World → Prop} {w : World} (h : tenonlaw11_HeapForeign x0 y0 z0 R w) : call Try.prog 5 #[.slice x0 y0 z0] w R :=
  call_of_fnW plain mixed Try.func5 tenonlaw11_HeapForeign_ann (Eq.mp (by kernel_rfl : tenonlaw11_HeapForeign x0 y0 z0 R w = fnW Try.prog Try.f5 tenonlaw11_HeapForeign_ann #[.slice x0 y0 z0] R w) h)

def tenonlaw11_HeapCounts (x0 : Int) (x1 : Option Addr) (y1 z1 : Nat) (R : Value → World → Prop) (w : World) : Prop :=
  call Try.prog 10 #[.int .i64 x0, .int .i64 30] w fun v1 w1 =>
  asI .i64 v1 fun n2 =>
  arith .i64 (1 + n2) fun n3 =>
  call Try.prog 11 #[.int .i64 n3, .int .u32 1048576] w1 fun v4 w2 =>
  ∃ (p5 : Option Addr) (n6 : Int),
  v4 = .tuple #[.pointer p5, .int .i64 n6] ∧
  br ((n6 : Int) != 0) (
  R (.bool false) w2) (
  ∃ I7 : Option Addr → Nat → Nat → Option Addr → Nat → Nat → Int → World → Nat → Prop, (∃ m8, I7 none 0 0 none 0 0 0 w2 m8) ∧
  ∀ (u9 : Nat → Value) (p10 : Option Addr) (l10 c10 : Nat) (p11 : Option Addr) (l11 c11 : Nat) (n12 : Int) (w3 : World) (m13 : Nat), I7 p10 l10 c10 p11 l11 c11 n12 w3 m13 →
  br (decide ((n12 : Int) < (y1 : Int))) (
  br (decide ((n12 : Int) < 80)) (
  idx x1 y1 n12 5 fun a14 =>
  ldA a14 5 w3 fun g15 =>
  new #[.int .i64 0, .int .i64 0, .int .i64 0, .int .i64 0, .int .u64 0] 47 w3 fun k16 w4 =>
  stA Try.prog (⟨k16, 0, none⟩ : Addr) 5 g15 w4 fun w5 =>
  ∃ J17 : Bool → World → Prop, (
  br ((l10 : Int) == 0) (
  J17 true w5) (
  ldI .i64 ((⟨k16, 0, none⟩ : Addr).add 0) w5 fun n18 =>
  J17 ((bitw .and .i64 n18 3 : Int) == 0) w5)) ∧
  ∀ (u19 : Nat → Value) (b20 : Bool) (w6 : World), J17 b20 w6 →
  br b20 (
  call Try.prog 12 #[.pointer p5, .int .i64 2, .int .u64 0] w6 fun v21 w7 =>
  ∃ (n22 : Int) (n23 : Int),
  v21 = .tuple #[.int .u64 n22, .int .i64 n23] ∧
  br ((n23 : Int) == 0) (
  new #[.int .u64 n22] 29 w7 fun k24 w8 =>
  runsS Try.prog (Builtin.append_ #[28, 28] 28 #[.slice p10 l10 c10, .slice (some (⟨k24, 0, none⟩ : Addr)) 1 1]) w8 fun p25 l25 c25 w9 =>
  new #[.int .i64 1] 3 w9 fun k26 w10 =>
  runsS Try.prog (Builtin.append_ #[43, 43] 43 #[.slice p11 l11 c11, .slice (some (⟨k26, 0, none⟩ : Addr)) 1 1]) w10 fun p27 l27 c27 w11 =>
  arith .i64 (n12 + 1) fun n28 =>
  ∃ m29, m29 < m13 ∧ I7 p25 l25 c25 p27 l27 c27 n28 w11 m29) (
  arith .i64 (n12 + 1) fun n30 =>
  ∃ m31, m31 < m13 ∧ I7 p10 l10 c10 p11 l11 c11 n30 w7 m31)) (
  ldI .i64 ((⟨k16, 0, none⟩ : Addr).add 2) w6 fun n32 =>
  call Try.prog 10 #[.int .i64 n32, .int .i64 ((l10 : Int))] w6 fun v33 w12 =>
  asI .i64 v33 fun n34 =>
  ldI .i64 ((⟨k16, 0, none⟩ : Addr).add 0) w12 fun n35 =>
  br ((bitw .and .i64 n35 3 : Int) == 1) (
  idx p11 l11 n34 1 fun a36 =>
  ldI .i64 a36 w12 fun n37 =>
  br (decide ((n37 : Int) > 0)) (
  idx p10 l10 n34 1 fun a38 =>
  ldI .u64 a38 w12 fun n39 =>
  call Try.prog 15 #[.pointer p5, .int .u64 n39] w12 fun v40 w13 =>
  ∃ (n41 : Int) (n42 : Int),
  v40 = .tuple #[.int .u32 n41, .int .i64 n42] ∧
  br ((n42 : Int) != 0) (
  R (.bool false) w13) (
  idx p11 l11 n34 1 fun a43 =>
  ldI .i64 a43 w13 fun n44 =>
  arith .i64 (n44 + 1) fun n45 =>
  idx p11 l11 n34 1 fun a46 =>
  st a46 (.int .i64 n45) w13 fun w14 =>
  call Try.prog 20 #[.pointer p5, .slice p10 l10 c10, .slice p11 l11 c11] w14 fun v47 w15 =>
  asB v47 fun b48 =>
  br (!b48) (
  R (.bool false) w15) (
  arith .i64 (n12 + 1) fun n49 =>
  ∃ m50, m50 < m13 ∧ I7 p10 l10 c10 p11 l11 c11 n49 w15 m50))) (
  call Try.prog 20 #[.pointer p5, .slice p10 l10 c10, .slice p11 l11 c11] w12 fun v51 w16 =>
  asB v51 fun b52 =>
  br (!b52) (
  R (.bool false) w16) (
  arith .i64 (n12 + 1) fun n53 =>
  ∃ m54, m54 < m13 ∧ I7 p10 l10 c10 p11 l11 c11 n53 w16 m54))) (
  br ((bitw .and .i64 n35 3 : Int) == 2) (
  idx p11 l11 n34 1 fun a55 =>
  ldI .i64 a55 w12 fun n56 =>
  br (decide ((n56 : Int) > 0)) (
  idx p10 l10 n34 1 fun a57 =>
  ldI .u64 a57 w12 fun n58 =>
  call Try.prog 14 #[.pointer p5, .int .u64 n58] w12 fun v59 w17 =>
  ∃ (p60 : Option Addr) (l60 c60 : Nat) (p61 : Option Addr) (l61 c61 : Nat) (n62 : Int),
  v59 = .tuple #[.slice p60 l60 c60, .slice p61 l61 c61, .int .i64 n62] ∧
  br ((n62 : Int) != 0) (
  R (.bool false) w17) (
  idx p11 l11 n34 1 fun a63 =>
  ldI .i64 a63 w17 fun n64 =>
  arith .i64 (n64 - 1) fun n65 =>
  idx p11 l11 n34 1 fun a66 =>
  st a66 (.int .i64 n65) w17 fun w18 =>
  call Try.prog 20 #[.pointer p5, .slice p10 l10 c10, .slice p11 l11 c11] w18 fun v67 w19 =>
  asB v67 fun b68 =>
  br (!b68) (
  R (.bool false) w19) (
  arith .i64 (n12 + 1) fun n69 =>
  ∃ m70, m70 < m13 ∧ I7 p10 l10 c10 p11 l11 c11 n69 w19 m70))) (
  call Try.prog 20 #[.pointer p5, .slice p10 l10 c10, .slice p11 l11 c11] w12 fun v71 w20 =>
  asB v71 fun b72 =>
  br (!b72) (
  R (.bool false) w20) (
  arith .i64 (n12 + 1) fun n73 =>
  ∃ m74, m74 < m13 ∧ I7 p10 l10 c10 p11 l11 c11 n73 w20 m74))) (
  ldI .i64 ((⟨k16, 0, none⟩ : Addr).add 3) w12 fun n75 =>
  call Try.prog 10 #[.int .i64 n75, .int .i64 ((l10 : Int))] w12 fun v76 w21 =>
  asI .i64 v76 fun n77 =>
  ∃ J78 : Bool → World → Prop, (
  idx p10 l10 n34 1 fun a79 =>
  ldI .u64 a79 w21 fun n80 =>
  call Try.prog 19 #[.pointer p5, .int .u64 n80] w21 fun v81 w22 =>
  asI .u32 v81 fun n82 =>
  br (decide ((n82 : Int) > 0)) (
  idx p10 l10 n77 1 fun a83 =>
  ldI .u64 a83 w22 fun n84 =>
  call Try.prog 19 #[.pointer p5, .int .u64 n84] w22 fun v85 w23 =>
  asI .u32 v85 fun n86 =>
  J78 (decide ((n86 : Int) > 0)) w23) (
  J78 false w22)) ∧
  ∀ (u87 : Nat → Value) (b88 : Bool) (w24 : World), J78 b88 w24 →
  br b88 (
  idx p10 l10 n34 1 fun a89 =>
  ldI .u64 a89 w24.drew fun n90 =>
  ldI .i64 ((⟨k16, 0, none⟩ : Addr).add 1) w24.drew fun n91 =>
  idx p10 l10 n77 1 fun a92 =>
  ldI .u64 a92 w24.drew fun n93 =>
  call Try.prog 13 #[.pointer p5, .int .u64 n90, .int .i64 (bitw .and .i64 n91 1), .agg #[.int .i64 1, .int .u64 n93]] w24.drew fun v94 w25 =>
  ∃ (p95 : Option Addr) (l95 c95 : Nat) (p96 : Option Addr) (l96 c96 : Nat) (n97 : Int),
  v94 = .tuple #[.slice p95 l95 c95, .slice p96 l96 c96, .int .i64 n97] ∧
  br ((n97 : Int) != 0) (
  R (.bool false) w25) (
  call Try.prog 20 #[.pointer p5, .slice p10 l10 c10, .slice p11 l11 c11] w25 fun v98 w26 =>
  asB v98 fun b99 =>
  br (!b99) (
  R (.bool false) w26) (
  arith .i64 (n12 + 1) fun n100 =>
  ∃ m101, m101 < m13 ∧ I7 p10 l10 c10 p11 l11 c11 n100 w26 m101))) (
  call Try.prog 20 #[.pointer p5, .slice p10 l10 c10, .slice p11 l11 c11] w24 fun v102 w27 =>
  asB v102 fun b103 =>
  br (!b103) (
  R (.bool false) w27) (
  arith .i64 (n12 + 1) fun n104 =>
  ∃ m105, m105 < m13 ∧ I7 p10 l10 c10 p11 l11 c11 n104 w27 m105)))))) (
  call Try.prog 18 #[] w3 fun v106 w28 =>
  asB v106 fun b107 =>
  R (.bool b107) w28)) (
  call Try.prog 18 #[] w3 fun v108 w29 =>
  asB v108 fun b109 =>
  R (.bool b109) w29))
@[irreducible] def tenonlaw11_HeapCounts_ann : Ann := .seq .none (.seq .none (.seq .none (.seq .none (.seq .none (.seq (.seq .none (.one (.loop [(7, .slice), (8, .slice), (9, .int .i64)] (.seq .none (.seq (.one (.seq .none (.seq (.meet [(54, .bool)] .none .none) (.seq .none (.seq (.seq .none (.one (.seq .none (.seq .none (.seq .none (.seq .none (.seq .none (.meet [(97, .bool)] .none (.seq (.seq (.draw [[], [], [], [1, 2], [1, 2, 3], [], [5], [5, 6], [], [], [8, 9], [8, 9, 10], [8, 9, 10, 11], [0, 1, 2, 3, 4, 5, 6, 7, 8, 9, 10, 11, 12], [0, 1, 2, 3, 4, 5, 6, 7, 8, 9, 10, 11, 12, 13], [0, 1, 2, 3, 4, 5, 6, 7, 8, 9, 10, 11, 12, 13, 14], [0, 1, 2, 3, 4, 5, 6, 7, 8, 9, 10, 11, 12, 13, 14], [0, 1, 2, 3, 4, 5, 6, 7, 8, 9, 10, 11, 12, 13, 14], [0, 1, 2, 3, 4, 5, 6, 7, 8, 9, 10, 11, 12, 13, 14, 15], [0, 1, 2, 3, 4, 5, 6, 7, 8, 9, 10, 11, 12, 13, 14, 15, 16, 18], [0, 1, 2, 3, 4, 5, 6, 7, 8, 9, 10, 11, 12, 13, 14, 15, 16, 17, 18, 19]] (ol [0, 1, 2, 3, 4, 5, 6, 7, 8, 9, 10, 11, 12, 13, 14, 15, 16, 17, 18, 19, 20] .nil)) .none) .none))))))))) .none))))) .none))))) .none)))))
theorem tenonlaw11_HeapCounts_call {x0 : Int} {x1 : Option Addr} {y1 z1 : Nat} {R : Value → World → Prop} {w : World} (h : tenonlaw11_HeapCounts x0 x1 y1 z1 R w) : call Try.prog 6 #[.int .i64 x0, .slice x1 y1 z1] w R :=
  call_of_fnW plain mixed Try.func6 tenonlaw11_HeapCounts_ann (Eq.mp (by kernel_rfl : tenonlaw11_HeapCounts x0 x1 y1 z1 R w = fnW Try.prog Try.f6 tenonlaw11_HeapCounts_ann #[.int .i64 x0, .slice x1 y1 z1] R w) h)

def tenonlaw11_HeapPlays (x0 : Int) (x1 : Int) (x2 : Option Addr) (y2 z2 : Nat) (R : Value → World → Prop) (w : World) : Prop :=
  call Try.prog 11 #[.int .i64 x0, .int .u32 x1] w fun v1 w1 =>
  ∃ (p2 : Option Addr) (n3 : Int),
  v1 = .tuple #[.pointer p2, .int .i64 n3] ∧
  call Try.prog 21 #[.int .i64 x0, .int .u32 x1] w1 fun v4 w2 =>
  asP v4 fun p5 =>
  br p5.isNone (
  br ((n3 : Int) == 1) (
  br p2.isNone (
  call Try.prog 18 #[] w2 fun v6 w3 =>
  asB v6 fun b7 =>
  R (.bool b7) w3) (
  R (.bool false) w2)) (
  R (.bool false) w2)) (
  call Try.prog 22 #[.int .i64 x0, .int .u32 x1] w2 fun v8 w4 =>
  asP v8 fun p9 =>
  ∃ I10 : Int → World → Nat → Prop, (∃ m11, I10 0 w4 m11) ∧
  ∀ (u12 : Nat → Value) (n13 : Int) (w5 : World) (m14 : Nat), I10 n13 w5 m14 →
  br (decide ((n13 : Int) < (y2 : Int))) (
  br (decide ((n13 : Int) < 120)) (
  br ((n3 : Int) == 0) (
  idx x2 y2 n13 5 fun a15 =>
  ldA a15 5 w5 fun g16 =>
  call Try.prog 23 #[.pointer p9, .agg g16] w5 fun v17 w6 =>
  asB v17 fun b18 =>
  br (!b18) (
  R (.bool false) w6) (
  arith .i64 (n13 + 1) fun n19 =>
  ∃ m20, m20 < m14 ∧ I10 n19 w6 m20)) (
  br ((n3 : Int) == 0) (
  call Try.prog 24 #[.pointer p9] w5 fun v21 w7 =>
  asB v21 fun b22 =>
  br b22 (
  call Try.prog 18 #[] w7 fun v23 w8 =>
  asB v23 fun b24 =>
  R (.bool b24) w8) (
  R (.bool false) w7)) (
  R (.bool false) w5))) (
  br ((n3 : Int) == 0) (
  call Try.prog 24 #[.pointer p9] w5 fun v25 w9 =>
  asB v25 fun b26 =>
  br b26 (
  call Try.prog 18 #[] w9 fun v27 w10 =>
  asB v27 fun b28 =>
  R (.bool b28) w10) (
  R (.bool false) w9)) (
  R (.bool false) w5))) (
  br ((n3 : Int) == 0) (
  call Try.prog 24 #[.pointer p9] w5 fun v29 w11 =>
  asB v29 fun b30 =>
  br b30 (
  call Try.prog 18 #[] w11 fun v31 w12 =>
  asB v31 fun b32 =>
  R (.bool b32) w12) (
  R (.bool false) w11)) (
  R (.bool false) w5)))
@[irreducible] def tenonlaw11_HeapPlays_ann : Ann := .seq .none (.seq .none (.seq .none (.seq .none (.seq (.seq .none (.one (.loop [(10, .int .i64)] .none))) .none))))
theorem tenonlaw11_HeapPlays_call {x0 : Int} {x1 : Int} {x2 : Option Addr} {y2 z2 : Nat} {R : Value → World → Prop} {w : World} (h : tenonlaw11_HeapPlays x0 x1 x2 y2 z2 R w) : call Try.prog 7 #[.int .i64 x0, .int .u32 x1, .slice x2 y2 z2] w R :=
  call_of_fnW plain mixed Try.func7 tenonlaw11_HeapPlays_ann (Eq.mp (by kernel_rfl : tenonlaw11_HeapPlays x0 x1 x2 y2 z2 R w = fnW Try.prog Try.f7 tenonlaw11_HeapPlays_ann #[.int .i64 x0, .int .u32 x1, .slice x2 y2 z2] R w) h)

def tenonlaw11_HeapTells (x0 : Int) (x1 : Option Addr) (y1 z1 : Nat) (x2 : Int) (R : Value → World → Prop) (w : World) : Prop :=
  call Try.prog 10 #[.int .i64 x0, .int .i64 30] w fun v1 w1 =>
  asI .i64 v1 fun n2 =>
  arith .i64 (1 + n2) fun n3 =>
  call Try.prog 22 #[.int .i64 n3, .int .u32 5] w1 fun v4 w2 =>
  asP v4 fun p5 =>
  ∃ J6 : World → Prop, (
  ∃ I7 : Int → World → Nat → Prop, (∃ m8, I7 0 w2 m8) ∧
  ∀ (u9 : Nat → Value) (n10 : Int) (w3 : World) (m11 : Nat), I7 n10 w3 m11 →
  br (decide ((n10 : Int) < (y1 : Int))) (
  br (decide ((n10 : Int) < 60)) (
  idx x1 y1 n10 5 fun a12 =>
  ldA a12 5 w3 fun g13 =>
  call Try.prog 23 #[.pointer p5, .agg g13] w3 fun v14 w4 =>
  asB v14 fun b15 =>
  call Try.prog 24 #[.pointer p5] w4 fun v16 w5 =>
  asB v16 fun b17 =>
  br (!b17) (
  R (.bool false) w5) (
  nn p5 fun a18 =>
  ldP (a18.add 0) w5 fun p19 =>
  call Try.prog 25 #[.pointer p19] w5 fun v20 w6 =>
  ∃ (g21 : Array Value) (p22 : Option Addr) (l22 c22 : Nat),
  v20 = .tuple #[.agg g21, .slice p22 l22 c22] ∧
  new #[.slice none 0 0, .slice none 0 0] 61 w6 fun k23 w7 =>
  stA Try.prog (⟨k23, 0, none⟩ : Addr) 2 g21 w7 fun w8 =>
  nn p5 fun a24 =>
  ldP (a24.add 1) w8 fun p25 =>
  call Try.prog 26 #[.pointer p25] w8 fun v26 w9 =>
  ∃ (g27 : Array Value) (p28 : Option Addr) (l28 c28 : Nat),
  v26 = .tuple #[.agg g27, .slice p28 l28 c28] ∧
  new #[.slice none 0 0, .slice none 0 0] 61 w9 fun k29 w10 =>
  stA Try.prog (⟨k29, 0, none⟩ : Addr) 2 g27 w10 fun w11 =>
  ldA (⟨k23, 0, none⟩ : Addr) 2 w11 fun g30 =>
  ldA (⟨k29, 0, none⟩ : Addr) 2 w11 fun g31 =>
  call Try.prog 27 #[.agg g30, .agg g31] w11 fun v32 w12 =>
  asB v32 fun b33 =>
  br (!b33) (
  R (.bool false) w12) (
  call Try.prog 16 #[.slice p22 l22 c22, .slice p28 l28 c28] w12 fun v34 w13 =>
  asB v34 fun b35 =>
  br (!b35) (
  R (.bool false) w13) (
  arith .i64 (n10 + 1) fun n36 =>
  ∃ m37, m37 < m11 ∧ I7 n36 w13 m37)))) (
  J6  w3)) (
  J6  w3)) ∧
  ∀ (u38 : Nat → Value)  (w14 : World), J6  w14 →
  nn p5 fun a39 =>
  ldP (a39.add 1) w14 fun p40 =>
  nn p40 fun a41 =>
  ldP (a41.add 1) w14 fun p42 =>
  call Try.prog 28 #[.pointer p42] w14 fun v43 w15 =>
  asS v43 fun p44 l44 c44 =>
  arith .i64 ((l44 : Int) + 1) fun n45 =>
  call Try.prog 10 #[.int .i64 x2, .int .i64 n45] w15 fun v46 w16 =>
  asI .i64 v46 fun n47 =>
  nn p5 fun a48 =>
  ldP (a48.add 0) w16.drew fun p49 =>
  slc p44 c44 1 0 n47 fun p50 l50 c50 =>
  call Try.prog 17 #[.pointer p49, .int .i64 n47] w16.drew fun v51 w17 =>
  asS v51 fun p52 l52 c52 =>
  call Try.prog 16 #[.slice p52 l52 c52, .slice p50 l50 c50] w17 fun v53 w18 =>
  asB v53 fun b54 =>
  br b54 (
  call Try.prog 18 #[] w18 fun v55 w19 =>
  asB v55 fun b56 =>
  R (.bool b56) w19) (
  R (.bool false) w18)
@[irreducible] def tenonlaw11_HeapTells_ann : Ann := .seq .none (.seq .none (.meet [] (.seq .none (.one (.loop [(8, .int .i64)] .none))) (.seq .none (.seq .none (.seq (.draw [[], [0], [0, 1], [0, 1, 2], [], [0, 1, 2, 3, 4], [], [], [6, 7], [0, 1, 2, 3, 4, 5, 6, 7, 8], [0, 1, 2, 3, 4, 5, 6, 7, 8, 9], [0, 1, 2, 3, 4, 5, 6, 7, 8, 9, 10], [0, 1, 2, 3, 4, 5, 6, 7, 8, 9, 10, 11], [0, 1, 2, 3, 4, 5, 6, 7, 8, 9, 10, 11, 12]] (ol [0, 1, 2, 3, 4, 6, 7, 8, 5, 9, 10, 11, 12, 13] .nil)) .none)))))
theorem tenonlaw11_HeapTells_call {x0 : Int} {x1 : Option Addr} {y1 z1 : Nat} {x2 : Int} {R : Value → World → Prop} {w : World} (h : tenonlaw11_HeapTells x0 x1 y1 z1 x2 R w) : call Try.prog 8 #[.int .i64 x0, .slice x1 y1 z1, .int .i64 x2] w R :=
  call_of_fnW plain mixed Try.func8 tenonlaw11_HeapTells_ann (Eq.mp (by kernel_rfl : tenonlaw11_HeapTells x0 x1 y1 z1 x2 R w = fnW Try.prog Try.f8 tenonlaw11_HeapTells_ann #[.int .i64 x0, .slice x1 y1 z1, .int .i64 x2] R w) h)

def tenonlaw11_HeapNil (x0 : Int) (x1 : Int) (x2 : Array Value) (R : Value → World → Prop) (w : World) : Prop :=
  new x2 35 w fun k1 w1 =>
  call Try.prog 12 #[.pointer none, .int .i64 x1, .int .u64 x0] w1 fun v2 w2 =>
  ∃ (n3 : Int) (n4 : Int),
  v2 = .tuple #[.int .u64 n3, .int .i64 n4] ∧
  call Try.prog 15 #[.pointer none, .int .u64 x0] w2 fun v5 w3 =>
  ∃ (n6 : Int) (n7 : Int),
  v5 = .tuple #[.int .u32 n6, .int .i64 n7] ∧
  call Try.prog 14 #[.pointer none, .int .u64 x0] w3 fun v8 w4 =>
  ∃ (p9 : Option Addr) (l9 c9 : Nat) (p10 : Option Addr) (l10 c10 : Nat) (n11 : Int),
  v8 = .tuple #[.slice p9 l9 c9, .slice p10 l10 c10, .int .i64 n11] ∧
  ldA (⟨k1, 0, none⟩ : Addr) 2 w4 fun g12 =>
  call Try.prog 13 #[.pointer none, .int .u64 x0, .int .i64 x1, .agg g12] w4 fun v13 w5 =>
  ∃ (p14 : Option Addr) (l14 c14 : Nat) (p15 : Option Addr) (l15 c15 : Nat) (n16 : Int),
  v13 = .tuple #[.slice p14 l14 c14, .slice p15 l15 c15, .int .i64 n16] ∧
  call Try.prog 29 #[.pointer none, .int .u64 x0] w5 fun v17 w6 =>
  ∃ (n18 : Int) (n19 : Int),
  v17 = .tuple #[.int .i64 n18, .int .i64 n19] ∧
  call Try.prog 30 #[.pointer none, .int .u64 x0] w6 fun v20 w7 =>
  ∃ (n21 : Int) (n22 : Int),
  v20 = .tuple #[.int .u64 n21, .int .i64 n22] ∧
  new #[.int .u64 x0] 29 w7 fun k23 w8 =>
  call Try.prog 31 #[.pointer none, .slice (some (⟨k23, 0, none⟩ : Addr)) 1 1] w8 fun v24 w9 =>
  ∃ (p25 : Option Addr) (l25 c25 : Nat) (p26 : Option Addr) (l26 c26 : Nat) (n27 : Int),
  v24 = .tuple #[.slice p25 l25 c25, .slice p26 l26 c26, .int .i64 n27] ∧
  call Try.prog 25 #[.pointer none] w9 fun v28 w10 =>
  ∃ (g29 : Array Value) (p30 : Option Addr) (l30 c30 : Nat),
  v28 = .tuple #[.agg g29, .slice p30 l30 c30] ∧
  new #[.slice none 0 0, .slice none 0 0] 61 w10 fun k31 w11 =>
  stA Try.prog (⟨k31, 0, none⟩ : Addr) 2 g29 w11 fun w12 =>
  br ((n3 : Int) != 0) (
  R (.bool false) w12) (
  br ((n4 : Int) != 3) (
  R (.bool false) w12) (
  br ((n7 : Int) != 2) (
  R (.bool false) w12) (
  br ((n11 : Int) != 2) (
  R (.bool false) w12) (
  br ((n16 : Int) != 2) (
  R (.bool false) w12) (
  br ((n18 : Int) != 0) (
  R (.bool false) w12) (
  br ((n19 : Int) != 2) (
  R (.bool false) w12) (
  br ((n22 : Int) != 2) (
  R (.bool false) w12) (
  br ((n27 : Int) != 2) (
  R (.bool false) w12) (
  call Try.prog 32 #[.pointer none, .int .u64 x0, .int .i64 1] w12 fun v32 w13 =>
  asI .i64 v32 fun n33 =>
  br ((n33 : Int) == 2) (
  call Try.prog 19 #[.pointer none, .int .u64 x0] w13 fun v34 w14 =>
  asI .u32 v34 fun n35 =>
  br ((n35 : Int) == 0) (
  call Try.prog 17 #[.pointer none, .int .i64 9] w14 fun v36 w15 =>
  asS v36 fun p37 l37 c37 =>
  br ((l37 : Int) == 0) (
  call Try.prog 33 #[.pointer none, .int .u64 x0, .int .i64 9] w15 fun v38 w16 =>
  asS v38 fun p39 l39 c39 =>
  br ((l39 : Int) == 0) (
  ldS ((⟨k31, 0, none⟩ : Addr).add 0) w16 fun p40 l40 c40 =>
  br ((l40 : Int) == 0) (
  br ((l30 : Int) == 0) (
  call Try.prog 18 #[] w16 fun v41 w17 =>
  asB v41 fun b42 =>
  R (.bool b42) w17) (
  R (.bool false) w16)) (
  R (.bool false) w16)) (
  R (.bool false) w16)) (
  R (.bool false) w15)) (
  R (.bool false) w14)) (
  R (.bool false) w13))))))))))
@[irreducible] def tenonlaw11_HeapNil_ann : Ann := .none
theorem tenonlaw11_HeapNil_call {x0 : Int} {x1 : Int} {x2 : Array Value} {R : Value → World → Prop} {w : World} (h : tenonlaw11_HeapNil x0 x1 x2 R w) : call Try.prog 9 #[.int .u64 x0, .int .i64 x1, .agg x2] w R :=
  call_of_fnW plain mixed Try.func9 tenonlaw11_HeapNil_ann (Eq.mp (by kernel_rfl : tenonlaw11_HeapNil x0 x1 x2 R w = fnW Try.prog Try.f9 tenonlaw11_HeapNil_ann #[.int .u64 x0, .int .i64 x1, .agg x2] R w) h)

def tenonref01_Pick (x0 : Int) (x1 : Int) (R : Value → World → Prop) (w : World) : Prop :=
  br (decide ((x1 : Int) < 1)) (
  R (.int .i64 0) w) (
  rem x0 x1 fun n1 =>
  br (decide ((n1 : Int) < 0)) (
  arith .i64 (n1 + x1) fun n2 =>
  R (.int .i64 n2) w) (
  R (.int .i64 n1) w))
@[irreducible] def tenonref01_Pick_ann : Ann := .none
theorem tenonref01_Pick_call {x0 : Int} {x1 : Int} {R : Value → World → Prop} {w : World} (h : tenonref01_Pick x0 x1 R w) : call Try.prog 10 #[.int .i64 x0, .int .i64 x1] w R :=
  call_of_fnW plain mixed Try.func10 tenonref01_Pick_ann (Eq.mp (by kernel_rfl : tenonref01_Pick x0 x1 R w = fnW Try.prog Try.f10 tenonref01_Pick_ann #[.int .i64 x0, .int .i64 x1] R w) h)

def heap_New (x0 : Int) (x1 : Int) (R : Value → World → Prop) (w : World) : Prop :=
  br (decide ((x0 : Int) < 1)) (
  R (.tuple #[.pointer none, .int .i64 1]) w) (
  br (decide ((x0 : Int) > 256)) (
  R (.tuple #[.pointer none, .int .i64 1]) w) (
  br ((x1 : Int) == 0) (
  R (.tuple #[.pointer none, .int .i64 1]) w) (
  call Try.prog 34 #[.int .i64 x0, .int .u32 1] w fun v1 w1 =>
  ∃ (p2 : Option Addr) (n3 : Int),
  v1 = .tuple #[.pointer p2, .int .i64 n3] ∧
  new #[.int .u32 x1, .pointer p2] 86 w1 fun k4 w2 =>
  R (.tuple #[.pointer (some (⟨k4, 0, none⟩ : Addr)), .int .i64 0]) w2)))
@[irreducible] def heap_New_ann : Ann := .none
theorem heap_New_call {x0 : Int} {x1 : Int} {R : Value → World → Prop} {w : World} (h : heap_New x0 x1 R w) : call Try.prog 11 #[.int .i64 x0, .int .u32 x1] w R :=
  call_of_fnW plain mixed Try.func11 heap_New_ann (Eq.mp (by kernel_rfl : heap_New x0 x1 R w = fnW Try.prog Try.f11 heap_New_ann #[.int .i64 x0, .int .u32 x1] R w) h)

def heap_Heap_Make (x0 : Option Addr) (x1 : Int) (x2 : Int) (R : Value → World → Prop) (w : World) : Prop :=
  br x0.isNone (
  R (.tuple #[.int .u64 0, .int .i64 3]) w) (
  br (decide ((x1 : Int) < 0)) (
  R (.tuple #[.int .u64 0, .int .i64 1]) w) (
  br (decide ((x1 : Int) > 8)) (
  R (.tuple #[.int .u64 0, .int .i64 1]) w) (
  runsS Try.prog (Instr.makeSlice 78 (.int .i64 x1) (.int .i64 x1)) w fun p1 l1 c1 w1 =>
  new #[.int .u32 1, .int .u64 x2, .int .i64 0, .slice p1 l1 c1, .slice none 0 0] 88 w1 fun k2 w2 =>
  br ((x2 : Int) != 0) (
  call Try.prog 35 #[.pointer x0, .int .u64 x2] w2 fun v3 w3 =>
  ∃ (p4 : Option Addr) (n5 : Int),
  v3 = .tuple #[.pointer p4, .int .i64 n5] ∧
  ∃ J6 : Int → World → Prop, (
  br ((n5 : Int) == 0) (
  nn p4 fun a7 =>
  ldI .u64 (a7.add 1) w3 fun n8 =>
  br ((n8 : Int) != 0) (
  J6 1 w3) (
  J6 n5 w3)) (
  J6 n5 w3)) ∧
  ∀ (u9 : Nat → Value) (n10 : Int) (w4 : World), J6 n10 w4 →
  br ((n10 : Int) != 0) (
  R (.tuple #[.int .u64 0, .int .i64 n10]) w4) (
  nn x0 fun a11 =>
  ldP (a11.add 1) w4 fun p12 =>
  call Try.prog 36 #[.pointer p12, .pointer (some (⟨k2, 0, none⟩ : Addr))] w4 fun v13 w5 =>
  ∃ (n14 : Int) (n15 : Int),
  v13 = .tuple #[.int .u64 n14, .int .i64 n15] ∧
  br ((n15 : Int) == 0) (
  nn p4 fun a16 =>
  ldS (a16.add 4) w5 fun p17 l17 c17 =>
  new #[.int .u64 n14] 29 w5 fun k18 w6 =>
  runsS Try.prog (Builtin.append_ #[28, 28] 28 #[.slice p17 l17 c17, .slice (some (⟨k18, 0, none⟩ : Addr)) 1 1]) w6 fun p19 l19 c19 w7 =>
  nn p4 fun a20 =>
  st (a20.add 4) (.slice p19 l19 c19) w7 fun w8 =>
  R (.tuple #[.int .u64 n14, .int .i64 n15]) w8) (
  R (.tuple #[.int .u64 n14, .int .i64 n15]) w5))) (
  nn x0 fun a21 =>
  ldP (a21.add 1) w2 fun p22 =>
  call Try.prog 36 #[.pointer p22, .pointer (some (⟨k2, 0, none⟩ : Addr))] w2 fun v23 w9 =>
  ∃ (n24 : Int) (n25 : Int),
  v23 = .tuple #[.int .u64 n24, .int .i64 n25] ∧
  R (.tuple #[.int .u64 n24, .int .i64 n25]) w9))))
@[irreducible] def heap_Heap_Make_ann : Ann := .seq .none (.seq .none (.seq .none (.seq .none (.seq (.seq .none (.seq (.seq .none (.meet [(10, .int .i64)] .none .none)) .none)) .none))))
theorem heap_Heap_Make_call {x0 : Option Addr} {x1 : Int} {x2 : Int} {R : Value → World → Prop} {w : World} (h : heap_Heap_Make x0 x1 x2 R w) : call Try.prog 12 #[.pointer x0, .int .i64 x1, .int .u64 x2] w R :=
  call_of_fnW plain mixed Try.func12 heap_Heap_Make_ann (Eq.mp (by kernel_rfl : heap_Heap_Make x0 x1 x2 R w = fnW Try.prog Try.f12 heap_Heap_Make_ann #[.pointer x0, .int .i64 x1, .int .u64 x2] R w) h)

def heap_Heap_Put (x0 : Option Addr) (x1 : Int) (x2 : Int) (x3 : Array Value) (R : Value → World → Prop) (w : World) : Prop :=
  new x3 35 w fun k1 w1 =>
  call Try.prog 35 #[.pointer x0, .int .u64 x1] w1 fun v2 w2 =>
  ∃ (p3 : Option Addr) (n4 : Int),
  v2 = .tuple #[.pointer p3, .int .i64 n4] ∧
  br ((n4 : Int) != 0) (
  R (.tuple #[.slice none 0 0, .slice none 0 0, .int .i64 n4]) w2) (
  br (decide ((x2 : Int) < 0)) (
  R (.tuple #[.slice none 0 0, .slice none 0 0, .int .i64 1]) w2) (
  nn p3 fun a5 =>
  ldS (a5.add 3) w2 fun p6 l6 c6 =>
  br (decide ((x2 : Int) ≥ (l6 : Int))) (
  R (.tuple #[.slice none 0 0, .slice none 0 0, .int .i64 1]) w2) (
  ldA (⟨k1, 0, none⟩ : Addr) 2 w2 fun g7 =>
  call Try.prog 37 #[.agg g7] w2 fun v8 w3 =>
  asB v8 fun b9 =>
  br (!b9) (
  R (.tuple #[.slice none 0 0, .slice none 0 0, .int .i64 1]) w3) (
  ∃ J10 : World → Prop, (
  ldI .i64 ((⟨k1, 0, none⟩ : Addr).add 0) w3 fun n11 =>
  br ((n11 : Int) == 1) (
  ldI .u64 ((⟨k1, 0, none⟩ : Addr).add 1) w3 fun n12 =>
  call Try.prog 15 #[.pointer x0, .int .u64 n12] w3 fun v13 w4 =>
  ∃ (n14 : Int) (n15 : Int),
  v13 = .tuple #[.int .u32 n14, .int .i64 n15] ∧
  br ((n15 : Int) != 0) (
  R (.tuple #[.slice none 0 0, .slice none 0 0, .int .i64 n15]) w4) (
  J10  w4)) (
  J10  w3)) ∧
  ∀ (u16 : Nat → Value)  (w5 : World), J10  w5 →
  new #[.pointer x0, .slice none 0 0, .slice none 0 0, .slice none 0 0] 95 w5 fun k17 w6 =>
  nn p3 fun a18 =>
  ldS (a18.add 3) w6 fun p19 l19 c19 =>
  idx p19 l19 x2 2 fun a20 =>
  ldA a20 2 w6 fun g21 =>
  new #[.int .i64 0, .int .u64 0] 35 w6 fun k22 w7 =>
  stA Try.prog (⟨k22, 0, none⟩ : Addr) 2 g21 w7 fun w8 =>
  nn p3 fun a23 =>
  ldS (a23.add 3) w8.drew fun p24 l24 c24 =>
  ldA (⟨k1, 0, none⟩ : Addr) 2 w8.drew fun g25 =>
  idx p24 l24 x2 2 fun a26 =>
  stA Try.prog a26 2 g25 w8.drew fun w9 =>
  ldA (⟨k22, 0, none⟩ : Addr) 2 w9 fun g27 =>
  call Try.prog 38 #[.pointer (some (⟨k17, 0, none⟩ : Addr)), .agg g27] w9 fun v28 w10 =>
  v28 = .tuple #[] ∧
  call Try.prog 39 #[.pointer (some (⟨k17, 0, none⟩ : Addr))] w10 fun v29 w11 =>
  ∃ (p30 : Option Addr) (l30 c30 : Nat) (p31 : Option Addr) (l31 c31 : Nat),
  v29 = .tuple #[.slice p30 l30 c30, .slice p31 l31 c31] ∧
  R (.tuple #[.slice p30 l30 c30, .slice p31 l31 c31, .int .i64 0]) w11))))
@[irreducible] def heap_Heap_Put_ann : Ann := .seq .none (.seq .none (.seq .none (.meet [] .none (.seq .none (.seq .none (.seq (.draw [[], [0], [0, 1], [0, 1, 2], [], [], [0, 1, 2, 3, 4, 5], [0, 1, 2, 3, 4, 5, 6]] (ol [0, 1, 2, 3, 4, 5, 6, 7] .nil)) .none))))))
theorem heap_Heap_Put_call {x0 : Option Addr} {x1 : Int} {x2 : Int} {x3 : Array Value} {R : Value → World → Prop} {w : World} (h : heap_Heap_Put x0 x1 x2 x3 R w) : call Try.prog 13 #[.pointer x0, .int .u64 x1, .int .i64 x2, .agg x3] w R :=
  call_of_fnW plain mixed Try.func13 heap_Heap_Put_ann (Eq.mp (by kernel_rfl : heap_Heap_Put x0 x1 x2 x3 R w = fnW Try.prog Try.f13 heap_Heap_Put_ann #[.pointer x0, .int .u64 x1, .int .i64 x2, .agg x3] R w) h)

def heap_Heap_Down (x0 : Option Addr) (x1 : Int) (R : Value → World → Prop) (w : World) : Prop :=
  call Try.prog 35 #[.pointer x0, .int .u64 x1] w fun v1 w1 =>
  ∃ (p2 : Option Addr) (n3 : Int),
  v1 = .tuple #[.pointer p2, .int .i64 n3] ∧
  br ((n3 : Int) != 0) (
  R (.tuple #[.slice none 0 0, .slice none 0 0, .int .i64 n3]) w1) (
  new #[.pointer x0, .slice none 0 0, .slice none 0 0, .slice none 0 0] 95 w1 fun k4 w2 =>
  call Try.prog 38 #[.pointer (some (⟨k4, 0, none⟩ : Addr)), .agg #[.int .i64 1, .int .u64 x1]] w2 fun v5 w3 =>
  v5 = .tuple #[] ∧
  call Try.prog 39 #[.pointer (some (⟨k4, 0, none⟩ : Addr))] w3 fun v6 w4 =>
  ∃ (p7 : Option Addr) (l7 c7 : Nat) (p8 : Option Addr) (l8 c8 : Nat),
  v6 = .tuple #[.slice p7 l7 c7, .slice p8 l8 c8] ∧
  R (.tuple #[.slice p7 l7 c7, .slice p8 l8 c8, .int .i64 0]) w4)
@[irreducible] def heap_Heap_Down_ann : Ann := .none
theorem heap_Heap_Down_call {x0 : Option Addr} {x1 : Int} {R : Value → World → Prop} {w : World} (h : heap_Heap_Down x0 x1 R w) : call Try.prog 14 #[.pointer x0, .int .u64 x1] w R :=
  call_of_fnW plain mixed Try.func14 heap_Heap_Down_ann (Eq.mp (by kernel_rfl : heap_Heap_Down x0 x1 R w = fnW Try.prog Try.f14 heap_Heap_Down_ann #[.pointer x0, .int .u64 x1] R w) h)

def heap_Heap_Up (x0 : Option Addr) (x1 : Int) (R : Value → World → Prop) (w : World) : Prop :=
  call Try.prog 40 #[.pointer x0, .int .u64 x1] w fun v1 w1 =>
  ∃ (p2 : Option Addr) (n3 : Int),
  v1 = .tuple #[.pointer p2, .int .i64 n3] ∧
  br ((n3 : Int) != 0) (
  R (.tuple #[.int .u32 0, .int .i64 n3]) w1) (
  nn p2 fun a4 =>
  ldI .u32 (a4.add 0) w1.drew fun n5 =>
  nn x0 fun a6 =>
  ldI .u32 (a6.add 0) w1.drew fun n7 =>
  br ((n5 : Int) == n7) (
  R (.tuple #[.int .u32 0, .int .i64 4]) w1.drew) (
  nn p2 fun a8 =>
  ldI .u32 (a8.add 0) w1.drew fun n9 =>
  arith .u32 (n9 + 1) fun n10 =>
  nn p2 fun a11 =>
  st (a11.add 0) (.int .u32 n10) w1.drew fun w2 =>
  nn p2 fun a12 =>
  ldI .u32 (a12.add 0) w2 fun n13 =>
  R (.tuple #[.int .u32 n13, .int .i64 0]) w2))
@[irreducible] def heap_Heap_Up_ann : Ann := .seq .none (.seq .none (.seq .none (.seq (.seq (.draw [[], [0], [0, 1], [0, 1, 2], [], [4], [4, 5], [4, 5, 6], [0, 1, 2, 3, 4, 5, 6, 7]] (ol [0, 1, 2, 3, 4, 5, 6, 7, 8] .nil)) .none) .none)))
theorem heap_Heap_Up_call {x0 : Option Addr} {x1 : Int} {R : Value → World → Prop} {w : World} (h : heap_Heap_Up x0 x1 R w) : call Try.prog 15 #[.pointer x0, .int .u64 x1] w R :=
  call_of_fnW plain mixed Try.func15 heap_Heap_Up_ann (Eq.mp (by kernel_rfl : heap_Heap_Up x0 x1 R w = fnW Try.prog Try.f15 heap_Heap_Up_ann #[.pointer x0, .int .u64 x1] R w) h)

def tenonref01_SameLongs (x0 : Option Addr) (y0 z0 : Nat) (x1 : Option Addr) (y1 z1 : Nat) (R : Value → World → Prop) (w : World) : Prop :=
  br ((y0 : Int) != (y1 : Int)) (
  R (.bool false) w) (
  ∃ I1 : Int → World → Nat → Prop, (∃ m2, I1 0 w m2) ∧
  ∀ (u3 : Nat → Value) (n4 : Int) (w1 : World) (m5 : Nat), I1 n4 w1 m5 →
  br (decide ((n4 : Int) < (y0 : Int))) (
  idx x0 y0 n4 1 fun a6 =>
  ldI .u64 a6 w1.drew fun n7 =>
  idx x1 y1 n4 1 fun a8 =>
  ldI .u64 a8 w1.drew fun n9 =>
  br ((n7 : Int) != n9) (
  R (.bool false) w1.drew) (
  arith .i64 (n4 + 1) fun n10 =>
  ∃ m11, m11 < m5 ∧ I1 n10 w1.drew m11)) (
  R (.bool true) w1))
@[irreducible] def tenonref01_SameLongs_ann : Ann := .seq .none (.seq .none (.seq (.seq .none (.one (.loop [(5, .int .i64)] (.seq .none (.seq (.one (.seq (.draw [[], [], [0, 1], [0, 1, 2], [], [], [4, 5], [4, 5, 6], [0, 1, 2, 3, 4, 5, 6, 7]] (ol [0, 1, 2, 3, 4, 5, 6, 7, 8] .nil)) .none)) .none))))) .none))
theorem tenonref01_SameLongs_call {x0 : Option Addr} {y0 z0 : Nat} {x1 : Option Addr} {y1 z1 : Nat} {R : Value → World → Prop} {w : World} (h : tenonref01_SameLongs x0 y0 z0 x1 y1 z1 R w) : call Try.prog 16 #[.slice x0 y0 z0, .slice x1 y1 z1] w R :=
  call_of_fnW plain mixed Try.func16 tenonref01_SameLongs_ann (Eq.mp (by kernel_rfl : tenonref01_SameLongs x0 y0 z0 x1 y1 z1 R w = fnW Try.prog Try.f16 tenonref01_SameLongs_ann #[.slice x0 y0 z0, .slice x1 y1 z1] R w) h)

def tenonlaw11_all (x0 : Option Addr) (x1 : Int) (R : Value → World → Prop) (w : World) : Prop :=
  new #[.int .i64 x1] 3 w fun k1 w1 =>
  new #[.slice none 0 0] 28 w1 fun k2 w2 =>
  call Try.prog 41 #[.pointer x0] w2 fun v3 w3 =>
  asF v3 fun f4 q4 t4 =>
  rangeW Try.prog (.func f4 q4 t4) 1 (fun xs5 N6 J7 T8 w4 => ∃ (n9 : Int), xs5 = #[.int .u64 n9] ∧
  T8 w4 fun w5 =>
  ldS (⟨k2, 0, none⟩ : Addr) w5 fun p10 l10 c10 =>
  ldI .i64 (⟨k1, 0, none⟩ : Addr) w5 fun n11 =>
  br (decide ((l10 : Int) ≥ n11)) (
  J7 (.exit 0) w5) (
  ldS (⟨k2, 0, none⟩ : Addr) w5 fun p12 l12 c12 =>
  new #[.int .u64 n9] 29 w5 fun k13 w6 =>
  runsS Try.prog (Builtin.append_ #[28, 28] 28 #[.slice p12 l12 c12, .slice (some (⟨k13, 0, none⟩ : Addr)) 1 1]) w6 fun p14 l14 c14 w7 =>
  st (⟨k2, 0, none⟩ : Addr) (.slice p14 l14 c14) w7 fun w8 =>
  N6 w8)) (fun D15 w9 =>
  ldS (⟨k2, 0, none⟩ : Addr) w9 fun p16 l16 c16 =>
  shutD D15 w9 fun w10 =>
  R (.slice p16 l16 c16) w10) (fun D17 c18 w11 => jmp c18 (
  False) [(0, ldS (⟨k2, 0, none⟩ : Addr) w11 fun p19 l19 c19 =>
  shutD D17 w11 fun w12 =>
  R (.slice p19 l19 c19) w12)]) w3
@[irreducible] def tenonlaw11_all_ann : Ann := .seq .none (.seq .none (.seq (.seq .none (.seq .none (.seq (.seq .none (.one (.range [.int .u64] .none .none))) .none))) .none))
theorem tenonlaw11_all_call {x0 : Option Addr} {x1 : Int} {R : Value → World → Prop} {w : World} (h : tenonlaw11_all x0 x1 R w) : call Try.prog 17 #[.pointer x0, .int .i64 x1] w R :=
  call_of_fnW plain mixed Try.func17 tenonlaw11_all_ann (Eq.mp (by kernel_rfl : tenonlaw11_all x0 x1 R w = fnW Try.prog Try.f17 tenonlaw11_all_ann #[.pointer x0, .int .i64 x1] R w) h)

def tenonlaw11_awake  (R : Value → World → Prop) (w : World) : Prop :=
  call Try.prog 11 #[.int .i64 4, .int .u32 9] w fun v1 w1 =>
  ∃ (p2 : Option Addr) (n3 : Int),
  v1 = .tuple #[.pointer p2, .int .i64 n3] ∧
  call Try.prog 12 #[.pointer p2, .int .i64 1, .int .u64 0] w1 fun v4 w2 =>
  ∃ (n5 : Int) (n6 : Int),
  v4 = .tuple #[.int .u64 n5, .int .i64 n6] ∧
  call Try.prog 12 #[.pointer p2, .int .i64 1, .int .u64 0] w2 fun v7 w3 =>
  ∃ (n8 : Int) (n9 : Int),
  v7 = .tuple #[.int .u64 n8, .int .i64 n9] ∧
  br ((n3 : Int) != 0) (
  R (.bool false) w3) (
  br ((n6 : Int) != 0) (
  R (.bool false) w3) (
  br ((n9 : Int) != 0) (
  R (.bool false) w3) (
  call Try.prog 13 #[.pointer p2, .int .u64 n5, .int .i64 0, .agg #[.int .i64 1, .int .u64 n8]] w3 fun v10 w4 =>
  ∃ (p11 : Option Addr) (l11 c11 : Nat) (p12 : Option Addr) (l12 c12 : Nat) (n13 : Int),
  v10 = .tuple #[.slice p11 l11 c11, .slice p12 l12 c12, .int .i64 n13] ∧
  call Try.prog 14 #[.pointer p2, .int .u64 n8] w4 fun v14 w5 =>
  ∃ (p15 : Option Addr) (l15 c15 : Nat) (p16 : Option Addr) (l16 c16 : Nat) (n17 : Int),
  v14 = .tuple #[.slice p15 l15 c15, .slice p16 l16 c16, .int .i64 n17] ∧
  call Try.prog 14 #[.pointer p2, .int .u64 n5] w5 fun v18 w6 =>
  ∃ (p19 : Option Addr) (l19 c19 : Nat) (p20 : Option Addr) (l20 c20 : Nat) (n21 : Int),
  v18 = .tuple #[.slice p19 l19 c19, .slice p20 l20 c20, .int .i64 n21] ∧
  br ((n13 : Int) == 0) (
  br ((n17 : Int) == 0) (
  br ((n21 : Int) == 0) (
  br ((l15 : Int) == 0) (
  new #[.int .u64 n5, .int .u64 n8] 29 w6 fun k22 w7 =>
  call Try.prog 16 #[.slice p19 l19 c19, .slice (some (⟨k22, 0, none⟩ : Addr)) 2 2] w7 fun v23 w8 =>
  asB v23 fun b24 =>
  R (.bool b24) w8) (
  R (.bool false) w6)) (
  R (.bool false) w6)) (
  R (.bool false) w6)) (
  R (.bool false) w6))))
@[irreducible] def tenonlaw11_awake_ann : Ann := .none
theorem tenonlaw11_awake_call  {R : Value → World → Prop} {w : World} (h : tenonlaw11_awake  R w) : call Try.prog 18 #[] w R :=
  call_of_fnW plain mixed Try.func18 tenonlaw11_awake_ann (Eq.mp (by kernel_rfl : tenonlaw11_awake  R w = fnW Try.prog Try.f18 tenonlaw11_awake_ann #[] R w) h)

def heap_Heap_Count (x0 : Option Addr) (x1 : Int) (R : Value → World → Prop) (w : World) : Prop :=
  call Try.prog 40 #[.pointer x0, .int .u64 x1] w fun v1 w1 =>
  ∃ (p2 : Option Addr) (n3 : Int),
  v1 = .tuple #[.pointer p2, .int .i64 n3] ∧
  br ((n3 : Int) == 0) (
  nn p2 fun a4 =>
  ldI .u32 (a4.add 0) w1 fun n5 =>
  R (.int .u32 n5) w1) (
  R (.int .u32 0) w1)
@[irreducible] def heap_Heap_Count_ann : Ann := .none
theorem heap_Heap_Count_call {x0 : Option Addr} {x1 : Int} {R : Value → World → Prop} {w : World} (h : heap_Heap_Count x0 x1 R w) : call Try.prog 19 #[.pointer x0, .int .u64 x1] w R :=
  call_of_fnW plain mixed Try.func19 heap_Heap_Count_ann (Eq.mp (by kernel_rfl : heap_Heap_Count x0 x1 R w = fnW Try.prog Try.f19 heap_Heap_Count_ann #[.pointer x0, .int .u64 x1] R w) h)

def tenonlaw11_counted (x0 : Option Addr) (x1 : Option Addr) (y1 z1 : Nat) (x2 : Option Addr) (y2 z2 : Nat) (R : Value → World → Prop) (w : World) : Prop :=
  ∃ I1 : Int → World → Nat → Prop, (∃ m2, I1 0 w m2) ∧
  ∀ (u3 : Nat → Value) (n4 : Int) (w1 : World) (m5 : Nat), I1 n4 w1 m5 →
  br (decide ((n4 : Int) < (y1 : Int))) (
  idx x2 y2 n4 1 fun a6 =>
  ldI .i64 a6 w1 fun n7 =>
  ∃ I8 : Int → Int → World → Nat → Prop, (∃ m9, I8 n7 0 w1 m9) ∧
  ∀ (u10 : Nat → Value) (n11 : Int) (n12 : Int) (w2 : World) (m13 : Nat), I8 n11 n12 w2 m13 →
  br (decide ((n12 : Int) < (y1 : Int))) (
  idx x1 y1 n12 1 fun a14 =>
  ldI .u64 a14 w2 fun n15 =>
  call Try.prog 33 #[.pointer x0, .int .u64 n15, .int .i64 9] w2 fun v16 w3 =>
  asS v16 fun p17 l17 c17 =>
  ∃ I18 : Int → Int → World → Nat → Prop, (∃ m19, I18 n11 0 w3 m19) ∧
  ∀ (u20 : Nat → Value) (n21 : Int) (n22 : Int) (w4 : World) (m23 : Nat), I18 n21 n22 w4 m23 →
  br (decide ((n22 : Int) < (l17 : Int))) (
  idx p17 l17 n22 2 fun a24 =>
  ldI .i64 (a24.add 0) w4.drew fun n25 =>
  br ((n25 : Int) == 1) (
  idx p17 l17 n22 2 fun a26 =>
  ldI .u64 (a26.add 1) w4.drew fun n27 =>
  idx x1 y1 n4 1 fun a28 =>
  ldI .u64 a28 w4.drew fun n29 =>
  br ((n27 : Int) == n29) (
  arith .i64 (n21 + 1) fun n30 =>
  arith .i64 (n22 + 1) fun n31 =>
  ∃ m32, m32 < m23 ∧ I18 n30 n31 w4.drew m32) (
  arith .i64 (n22 + 1) fun n33 =>
  ∃ m34, m34 < m23 ∧ I18 n21 n33 w4.drew m34)) (
  arith .i64 (n22 + 1) fun n35 =>
  ∃ m36, m36 < m23 ∧ I18 n21 n35 w4.drew m36)) (
  arith .i64 (n12 + 1) fun n37 =>
  ∃ m38, m38 < m13 ∧ I8 n21 n37 w4 m38)) (
  idx x1 y1 n4 1 fun a39 =>
  ldI .u64 a39 w2 fun n40 =>
  call Try.prog 19 #[.pointer x0, .int .u64 n40] w2 fun v41 w5 =>
  asI .u32 v41 fun n42 =>
  arith .i64 n42 fun n43 =>
  br ((n43 : Int) != n11) (
  R (.bool false) w5) (
  arith .i64 (n4 + 1) fun n44 =>
  ∃ m45, m45 < m5 ∧ I1 n44 w5 m45))) (
  R (.bool true) w1)
@[irreducible] def tenonlaw11_counted_ann : Ann := .seq .none (.seq (.seq .none (.one (.loop [(7, .int .i64)] (.seq .none (.seq (.one (.seq .none (.seq (.seq .none (.one (.loop [(8, .int .i64), (9, .int .i64)] (.seq .none (.seq (.one (.seq .none (.seq .none (.one (.loop [(8, .int .i64), (11, .int .i64)] (.seq .none (.seq (.one (.seq (.draw [[], [], [0, 1], [0, 1, 2], [0, 1, 2, 3], [0, 1, 2, 3, 4], [0, 1, 2, 3, 4, 5], [0, 1, 2, 3, 4, 5, 6], [0, 1, 2, 3, 4, 5, 6], [0, 1, 2, 3, 4, 5, 6, 7, 8], [0, 1, 2, 3, 4, 5, 6, 7, 8, 9], [0, 1, 2, 3, 4, 5, 6, 7, 8, 9, 10], [0, 1, 2, 3, 4, 5, 6], [0, 1, 2, 3, 4, 5, 6], [0, 1, 2, 3, 4, 5, 6, 12, 13], [0, 1, 2, 3, 4, 5, 6, 12, 13, 14], [0, 1, 2, 3, 4, 5, 6, 7, 8, 9, 10, 11, 12, 13, 14, 15], [0, 1, 2, 3, 4, 5, 6, 7, 8, 9, 10, 11, 12, 13, 14, 15, 16]] (ol [0, 1, 2, 3, 4, 5, 6, 7, 8, 9, 10, 11, 12, 13, 14, 15, 16, 17] .nil)) .none)) .none))))))) .none))))) .none))) .none))))) .none)
theorem tenonlaw11_counted_call {x0 : Option Addr} {x1 : Option Addr} {y1 z1 : Nat} {x2 : Option Addr} {y2 z2 : Nat} {R : Value → World → Prop} {w : World} (h : tenonlaw11_counted x0 x1 y1 z1 x2 y2 z2 R w) : call Try.prog 20 #[.pointer x0, .slice x1 y1 z1, .slice x2 y2 z2] w R :=
  call_of_fnW plain mixed Try.func20 tenonlaw11_counted_ann (Eq.mp (by kernel_rfl : tenonlaw11_counted x0 x1 y1 z1 x2 y2 z2 R w = fnW Try.prog Try.f20 tenonlaw11_counted_ann #[.pointer x0, .slice x1 y1 z1, .slice x2 y2 z2] R w) h)

def tenonref11_New (x0 : Int) (x1 : Int) (R : Value → World → Prop) (w : World) : Prop :=
  br (decide ((x0 : Int) < 1)) (
  R (.pointer none) w) (
  br (decide ((x0 : Int) > 256)) (
  R (.pointer none) w) (
  br ((x1 : Int) == 0) (
  R (.pointer none) w) (
  call Try.prog 42 #[.int .i64 x0, .int .u32 1] w fun v1 w1 =>
  asP v1 fun p2 =>
  new #[.int .u32 x1, .pointer p2, .slice none 0 0] 70 w1 fun k3 w2 =>
  R (.pointer (some (⟨k3, 0, none⟩ : Addr))) w2)))
@[irreducible] def tenonref11_New_ann : Ann := .none
theorem tenonref11_New_call {x0 : Int} {x1 : Int} {R : Value → World → Prop} {w : World} (h : tenonref11_New x0 x1 R w) : call Try.prog 21 #[.int .i64 x0, .int .u32 x1] w R :=
  call_of_fnW plain mixed Try.func21 tenonref11_New_ann (Eq.mp (by kernel_rfl : tenonref11_New x0 x1 R w = fnW Try.prog Try.f21 tenonref11_New_ann #[.int .i64 x0, .int .u32 x1] R w) h)

def tenonlaw11_begun (x0 : Int) (x1 : Int) (R : Value → World → Prop) (w : World) : Prop :=
  call Try.prog 11 #[.int .i64 x0, .int .u32 x1] w fun v1 w1 =>
  ∃ (p2 : Option Addr) (n3 : Int),
  v1 = .tuple #[.pointer p2, .int .i64 n3] ∧
  call Try.prog 21 #[.int .i64 x0, .int .u32 x1] w1 fun v4 w2 =>
  asP v4 fun p5 =>
  new #[.pointer p2, .pointer p5, .slice none 0 0] 64 w2 fun k6 w3 =>
  R (.pointer (some (⟨k6, 0, none⟩ : Addr))) w3
@[irreducible] def tenonlaw11_begun_ann : Ann := .none
theorem tenonlaw11_begun_call {x0 : Int} {x1 : Int} {R : Value → World → Prop} {w : World} (h : tenonlaw11_begun x0 x1 R w) : call Try.prog 22 #[.int .i64 x0, .int .u32 x1] w R :=
  call_of_fnW plain mixed Try.func22 tenonlaw11_begun_ann (Eq.mp (by kernel_rfl : tenonlaw11_begun x0 x1 R w = fnW Try.prog Try.f22 tenonlaw11_begun_ann #[.int .i64 x0, .int .u32 x1] R w) h)

def tenonlaw11_Pair_do (x0 : Option Addr) (x1 : Array Value) (R : Value → World → Prop) (w : World) : Prop :=
  new x1 47 w fun k1 w1 =>
  ldI .u64 ((⟨k1, 0, none⟩ : Addr).add 4) w1 fun n2 =>
  ∃ J3 : Int → World → Prop, (
  br ((n2 : Int) == 0) (
  ldI .i64 ((⟨k1, 0, none⟩ : Addr).add 2) w1 fun n4 =>
  call Try.prog 43 #[.pointer x0, .int .i64 n4] w1 fun v5 w2 =>
  asI .u64 v5 fun n6 =>
  J3 n6 w2) (
  J3 n2 w1)) ∧
  ∀ (u7 : Nat → Value) (n8 : Int) (w3 : World), J3 n8 w3 →
  ldI .i64 ((⟨k1, 0, none⟩ : Addr).add 0) w3 fun n9 =>
  call Try.prog 10 #[.int .i64 n9, .int .i64 11] w3 fun v10 w4 =>
  asI .i64 v10 fun n11 =>
  ∃ J12 : Bool → World → Prop, (
  br ((n11 : Int) == 0) (
  J12 ((n11 : Int) == 0) w4) (
  br ((n11 : Int) == 1) (
  J12 ((n11 : Int) == 1) w4) (
  J12 ((n11 : Int) == 2) w4))) ∧
  ∀ (u13 : Nat → Value) (b14 : Bool) (w5 : World), J12 b14 w5 →
  br b14 (
  ∃ J15 : Int → World → Prop, (
  br ((n11 : Int) == 2) (
  J15 n8 w5) (
  J15 0 w5)) ∧
  ∀ (u16 : Nat → Value) (n17 : Int) (w6 : World), J15 n17 w6 →
  nn x0 fun a18 =>
  ldP (a18.add 0) w6.drew fun p19 =>
  ldI .i64 ((⟨k1, 0, none⟩ : Addr).add 1) w6.drew fun n20 =>
  call Try.prog 12 #[.pointer p19, .int .i64 n20, .int .u64 n17] w6.drew fun v21 w7 =>
  ∃ (n22 : Int) (n23 : Int),
  v21 = .tuple #[.int .u64 n22, .int .i64 n23] ∧
  nn x0 fun a24 =>
  ldP (a24.add 1) w7.drew fun p25 =>
  ldI .i64 ((⟨k1, 0, none⟩ : Addr).add 1) w7.drew fun n26 =>
  call Try.prog 44 #[.pointer p25, .int .i64 n26, .int .u64 n17] w7.drew fun v27 w8 =>
  ∃ (n28 : Int) (n29 : Int),
  v27 = .tuple #[.int .u64 n28, .int .i64 n29] ∧
  br ((n29 : Int) == 0) (
  nn x0 fun a30 =>
  ldS (a30.add 2) w8 fun p31 l31 c31 =>
  new #[.int .u64 n28] 29 w8 fun k32 w9 =>
  runsS Try.prog (Builtin.append_ #[28, 28] 28 #[.slice p31 l31 c31, .slice (some (⟨k32, 0, none⟩ : Addr)) 1 1]) w9 fun p33 l33 c33 w10 =>
  nn x0 fun a34 =>
  st (a34.add 2) (.slice p33 l33 c33) w10 fun w11 =>
  br ((n22 : Int) == n28) (
  R (.bool ((n23 : Int) == n29)) w11) (
  R (.bool false) w11)) (
  br ((n22 : Int) == n28) (
  R (.bool ((n23 : Int) == n29)) w8) (
  R (.bool false) w8))) (
  ∃ J35 : Bool → World → Prop, (
  br ((n11 : Int) == 3) (
  J35 ((n11 : Int) == 3) w5) (
  J35 ((n11 : Int) == 4) w5)) ∧
  ∀ (u36 : Nat → Value) (b37 : Bool) (w12 : World), J35 b37 w12 →
  br b37 (
  nn x0 fun a38 =>
  ldP (a38.add 0) w12 fun p39 =>
  call Try.prog 15 #[.pointer p39, .int .u64 n8] w12 fun v40 w13 =>
  ∃ (n41 : Int) (n42 : Int),
  v40 = .tuple #[.int .u32 n41, .int .i64 n42] ∧
  nn x0 fun a43 =>
  ldP (a43.add 1) w13 fun p44 =>
  call Try.prog 45 #[.pointer p44, .int .u64 n8] w13 fun v45 w14 =>
  ∃ (n46 : Int) (n47 : Int),
  v45 = .tuple #[.int .u32 n46, .int .i64 n47] ∧
  br ((n41 : Int) == n46) (
  R (.bool ((n42 : Int) == n47)) w14) (
  R (.bool false) w14)) (
  ∃ J48 : Bool → World → Prop, (
  br ((n11 : Int) == 5) (
  J48 ((n11 : Int) == 5) w12) (
  J48 ((n11 : Int) == 6) w12)) ∧
  ∀ (u49 : Nat → Value) (b50 : Bool) (w15 : World), J48 b50 w15 →
  br b50 (
  nn x0 fun a51 =>
  ldP (a51.add 0) w15 fun p52 =>
  call Try.prog 14 #[.pointer p52, .int .u64 n8] w15 fun v53 w16 =>
  ∃ (p54 : Option Addr) (l54 c54 : Nat) (p55 : Option Addr) (l55 c55 : Nat) (n56 : Int),
  v53 = .tuple #[.slice p54 l54 c54, .slice p55 l55 c55, .int .i64 n56] ∧
  nn x0 fun a57 =>
  ldP (a57.add 1) w16 fun p58 =>
  call Try.prog 46 #[.pointer p58, .int .u64 n8] w16 fun v59 w17 =>
  ∃ (p60 : Option Addr) (l60 c60 : Nat) (p61 : Option Addr) (l61 c61 : Nat) (n62 : Int),
  v59 = .tuple #[.slice p60 l60 c60, .slice p61 l61 c61, .int .i64 n62] ∧
  call Try.prog 16 #[.slice p54 l54 c54, .slice p60 l60 c60] w17 fun v63 w18 =>
  asB v63 fun b64 =>
  br b64 (
  call Try.prog 16 #[.slice p55 l55 c55, .slice p61 l61 c61] w18 fun v65 w19 =>
  asB v65 fun b66 =>
  br b66 (
  R (.bool ((n56 : Int) == n62)) w19) (
  R (.bool false) w19)) (
  R (.bool false) w18)) (
  ∃ J67 : Bool → World → Prop, (
  br ((n11 : Int) == 7) (
  J67 ((n11 : Int) == 7) w15) (
  J67 ((n11 : Int) == 8) w15)) ∧
  ∀ (u68 : Nat → Value) (b69 : Bool) (w20 : World), J67 b69 w20 →
  br b69 (
  ldA (⟨k1, 0, none⟩ : Addr) 5 w20 fun g70 =>
  call Try.prog 47 #[.pointer x0, .agg g70] w20 fun v71 w21 =>
  asA v71 fun g72 =>
  new #[.int .i64 0, .int .u64 0] 35 w21 fun k73 w22 =>
  stA Try.prog (⟨k73, 0, none⟩ : Addr) 2 g72 w22 fun w23 =>
  nn x0 fun a74 =>
  ldP (a74.add 0) w23.drew fun p75 =>
  ldI .i64 ((⟨k1, 0, none⟩ : Addr).add 1) w23.drew fun n76 =>
  ldA (⟨k73, 0, none⟩ : Addr) 2 w23.drew fun g77 =>
  call Try.prog 13 #[.pointer p75, .int .u64 n8, .int .i64 n76, .agg g77] w23.drew fun v78 w24 =>
  ∃ (p79 : Option Addr) (l79 c79 : Nat) (p80 : Option Addr) (l80 c80 : Nat) (n81 : Int),
  v78 = .tuple #[.slice p79 l79 c79, .slice p80 l80 c80, .int .i64 n81] ∧
  nn x0 fun a82 =>
  ldP (a82.add 1) w24.drew fun p83 =>
  ldI .i64 ((⟨k1, 0, none⟩ : Addr).add 1) w24.drew fun n84 =>
  ldA (⟨k73, 0, none⟩ : Addr) 2 w24.drew fun g85 =>
  call Try.prog 48 #[.pointer p83, .int .u64 n8, .int .i64 n84, .agg g85] w24.drew fun v86 w25 =>
  ∃ (p87 : Option Addr) (l87 c87 : Nat) (p88 : Option Addr) (l88 c88 : Nat) (n89 : Int),
  v86 = .tuple #[.slice p87 l87 c87, .slice p88 l88 c88, .int .i64 n89] ∧
  call Try.prog 16 #[.slice p79 l79 c79, .slice p87 l87 c87] w25 fun v90 w26 =>
  asB v90 fun b91 =>
  br b91 (
  call Try.prog 16 #[.slice p80 l80 c80, .slice p88 l88 c88] w26 fun v92 w27 =>
  asB v92 fun b93 =>
  br b93 (
  R (.bool ((n81 : Int) == n89)) w27) (
  R (.bool false) w27)) (
  R (.bool false) w26)) (
  br ((n11 : Int) == 9) (
  ldI .i64 ((⟨k1, 0, none⟩ : Addr).add 3) w20.drew fun n94 =>
  ldI .i64 ((⟨k1, 0, none⟩ : Addr).add 1) w20.drew fun n95 =>
  arith .i64 (1 + (bitw .and .i64 n95 1)) fun n96 =>
  call Try.prog 43 #[.pointer x0, .int .i64 n94] w20.drew fun v97 w28 =>
  asI .u64 v97 fun n98 =>
  w28.cell? ((⟨k1, 0, none⟩ : Addr).add 1) = some (.int .i64 n95) ∧
  new #[.int .u64 n8, .int .u64 n98] 29 w28 fun k99 w29 =>
  slc (some (⟨k99, 0, none⟩ : Addr)) 2 1 0 n96 fun p100 l100 c100 =>
  nn x0 fun a101 =>
  ldP (a101.add 0) w29 fun p102 =>
  call Try.prog 31 #[.pointer p102, .slice p100 l100 c100] w29 fun v103 w30 =>
  ∃ (p104 : Option Addr) (l104 c104 : Nat) (p105 : Option Addr) (l105 c105 : Nat) (n106 : Int),
  v103 = .tuple #[.slice p104 l104 c104, .slice p105 l105 c105, .int .i64 n106] ∧
  nn x0 fun a107 =>
  ldP (a107.add 1) w30 fun p108 =>
  call Try.prog 49 #[.pointer p108, .slice p100 l100 c100] w30 fun v109 w31 =>
  ∃ (p110 : Option Addr) (l110 c110 : Nat) (p111 : Option Addr) (l111 c111 : Nat) (n112 : Int),
  v109 = .tuple #[.slice p110 l110 c110, .slice p111 l111 c111, .int .i64 n112] ∧
  call Try.prog 16 #[.slice p104 l104 c104, .slice p110 l110 c110] w31 fun v113 w32 =>
  asB v113 fun b114 =>
  br b114 (
  call Try.prog 16 #[.slice p105 l105 c105, .slice p111 l111 c111] w32 fun v115 w33 =>
  asB v115 fun b116 =>
  br b116 (
  R (.bool ((n106 : Int) == n112)) w33) (
  R (.bool false) w33)) (
  R (.bool false) w32)) (
  nn x0 fun a117 =>
  ldP (a117.add 0) w20.drew fun p118 =>
  ldI .i64 ((⟨k1, 0, none⟩ : Addr).add 3) w20.drew fun n119 =>
  call Try.prog 32 #[.pointer p118, .int .u64 n8, .int .i64 n119] w20.drew fun v120 w34 =>
  asI .i64 v120 fun n121 =>
  nn x0 fun a122 =>
  ldP (a122.add 1) w34 fun p123 =>
  call Try.prog 50 #[.pointer p123, .int .u64 n8] w34 fun v124 w35 =>
  asP v124 fun p125 =>
  br (!p125.isNone) (
  ldI .i64 ((⟨k1, 0, none⟩ : Addr).add 3) w35 fun n126 =>
  nn p125 fun a127 =>
  st (a127.add 3) (.int .i64 n126) w35 fun w36 =>
  br (((n121 : Int) == 0) == (!p125.isNone)) (
  br ((n121 : Int) == 0) (
  R (.bool true) w36) (
  R (.bool ((n121 : Int) == 2)) w36)) (
  R (.bool false) w36)) (
  br (((n121 : Int) == 0) == (!p125.isNone)) (
  br ((n121 : Int) == 0) (
  R (.bool true) w35) (
  R (.bool ((n121 : Int) == 2)) w35)) (
  R (.bool false) w35)))))))
@[irreducible] def tenonlaw11_Pair_do_ann : Ann := .seq .none (.seq .none (.meet [(5, .int .u64)] .none (.seq .none (.seq (.seq .none (.one (.meet [(50, .bool)] .none (.seq (.seq .none (.meet [(7, .int .u64)] .none (.seq (.draw [[], [0], [0, 1], [0, 1, 2], [], [4], [], [0, 1, 2, 3, 4, 5, 6], [0, 1, 2, 3, 4, 5, 6, 7], [0, 1, 2, 3, 4, 5, 6, 7, 8], [0, 1, 2, 3, 4, 5, 6, 7, 8], [0, 1, 2, 3, 4, 5, 6, 7, 8, 9], [0, 1, 2, 3, 4, 5, 6, 7, 8, 9, 10, 11]] (ol [0, 1, 2, 3, 4, 5, 6, 7, 8, 9, 10, 11, 12] .nil)) (.seq (.draw [[], [0], [0, 1], [0, 1, 2], [], [4], [], [0, 1, 2, 3, 4, 5, 6], [0, 1, 2, 3, 4, 5, 6, 7], [0, 1, 2, 3, 4, 5, 6, 7, 8], [0, 1, 2, 3, 4, 5, 6, 7, 8], [0, 1, 2, 3, 4, 5, 6, 7, 8, 9], [0, 1, 2, 3, 4, 5, 6, 7, 8, 9, 10, 11]] (ol [0, 1, 2, 3, 4, 5, 6, 7, 8, 9, 10, 11, 12] .nil)) .none)))) (.meet [(99, .bool)] .none (.seq .none (.meet [(128, .bool)] .none (.seq .none (.meet [(164, .bool)] .none (.seq (.seq .none (.seq (.draw [[], [0], [0, 1], [0, 1, 2], [], [], [5], [], [0, 1, 2, 3, 4, 5, 6, 7], [0, 1, 2, 3, 4, 5, 6, 7, 8], [0, 1, 2, 3, 4, 5, 6, 7, 8, 9], [0, 1, 2, 3, 4, 5, 6, 7, 8, 9], [0, 1, 2, 3, 4, 5, 6, 7, 8, 9], [0, 1, 2, 3, 4, 5, 6, 7, 8, 9, 10], [0, 1, 2, 3, 4, 5, 6, 7, 8, 9, 10, 11, 13], [0, 1, 2, 3, 4, 5, 6, 7, 8, 9, 10, 11, 12, 13, 14]] (ol [0, 1, 2, 3, 4, 5, 6, 7, 8, 9, 10, 11, 12, 13, 14, 15] .nil)) (.seq (.draw [[], [0], [0, 1], [0, 1, 2], [], [], [5], [], [0, 1, 2, 3, 4, 5, 6, 7], [0, 1, 2, 3, 4, 5, 6, 7, 8], [0, 1, 2, 3, 4, 5, 6, 7, 8, 9], [0, 1, 2, 3, 4, 5, 6, 7, 8, 9], [0, 1, 2, 3, 4, 5, 6, 7, 8, 9], [0, 1, 2, 3, 4, 5, 6, 7, 8, 9, 10], [0, 1, 2, 3, 4, 5, 6, 7, 8, 9, 10, 11, 13], [0, 1, 2, 3, 4, 5, 6, 7, 8, 9, 10, 11, 12, 13, 14]] (ol [0, 1, 2, 3, 4, 5, 6, 7, 8, 9, 10, 11, 12, 13, 14, 15] .nil)) .none))) (.seq .none (.seq (.seq (.draw [[], [], [], [2], [1, 2, 3], [0, 1, 2, 3, 4], [], [6], [6, 7], [6, 7, 8], [0, 1, 2, 3, 4, 5, 6, 7, 8, 9], [0, 1, 2, 3, 4, 5, 6, 7, 8, 9, 10]] (ol [0, 1, 2, 3, 6, 7, 8, 9, 4, 5, 10, 11] .nil)) .none) .none)))))))))))) (.seq (.draw [[], [0], [0, 1], [0, 1, 2], [], [], [5], [0, 1, 2, 3, 4, 5, 6], [0, 1, 2, 3, 4, 5, 6, 7]] (ol [0, 1, 2, 3, 4, 5, 6, 7, 8] .nil)) .none)))))
theorem tenonlaw11_Pair_do_call {x0 : Option Addr} {x1 : Array Value} {R : Value → World → Prop} {w : World} (h : tenonlaw11_Pair_do x0 x1 R w) : call Try.prog 23 #[.pointer x0, .agg x1] w R :=
  call_of_fnW plain mixed Try.func23 tenonlaw11_Pair_do_ann (Eq.mp (by kernel_rfl : tenonlaw11_Pair_do x0 x1 R w = fnW Try.prog Try.f23 tenonlaw11_Pair_do_ann #[.pointer x0, .agg x1] R w) h)

def tenonlaw11_Pair_alike (x0 : Option Addr) (R : Value → World → Prop) (w : World) : Prop :=
  nn x0 fun a1 =>
  ldP (a1.add 0) w.drew fun p2 =>
  nn x0 fun a3 =>
  ldP (a3.add 1) w.drew fun p4 =>
  nn p4 fun a5 =>
  ldP (a5.add 1) w.drew fun p6 =>
  call Try.prog 17 #[.pointer p2, .int .i64 999] w.drew fun v7 w1 =>
  asS v7 fun p8 l8 c8 =>
  w1.cell? (a5.add 1) = some (.pointer p6) ∧
  w1.cell? (a3.add 1) = some (.pointer p4) ∧
  call Try.prog 28 #[.pointer p6] w1 fun v9 w2 =>
  asS v9 fun p10 l10 c10 =>
  call Try.prog 16 #[.slice p8 l8 c8, .slice p10 l10 c10] w2 fun v11 w3 =>
  asB v11 fun b12 =>
  br (!b12) (
  R (.bool false) w3) (
  ∃ I13 : Int → World → Nat → Prop, (∃ m14, I13 0 w3 m14) ∧
  ∀ (u15 : Nat → Value) (n16 : Int) (w4 : World) (m17 : Nat), I13 n16 w4 m17 →
  nn x0 fun a18 =>
  ldS (a18.add 2) w4 fun p19 l19 c19 =>
  br (decide ((n16 : Int) < (l19 : Int))) (
  nn x0 fun a20 =>
  ldS (a20.add 2) w4 fun p21 l21 c21 =>
  idx p21 l21 n16 1 fun a22 =>
  ldI .u64 a22 w4 fun n23 =>
  nn x0 fun a24 =>
  ldP (a24.add 1) w4 fun p25 =>
  call Try.prog 50 #[.pointer p25, .int .u64 n23] w4 fun v26 w5 =>
  asP v26 fun p27 =>
  nn x0 fun a28 =>
  ldP (a28.add 0) w5 fun p29 =>
  call Try.prog 29 #[.pointer p29, .int .u64 n23] w5 fun v30 w6 =>
  ∃ (n31 : Int) (n32 : Int),
  v30 = .tuple #[.int .i64 n31, .int .i64 n32] ∧
  nn x0 fun a33 =>
  ldP (a33.add 0) w6 fun p34 =>
  call Try.prog 30 #[.pointer p34, .int .u64 n23] w6 fun v35 w7 =>
  ∃ (n36 : Int) (n37 : Int),
  v35 = .tuple #[.int .u64 n36, .int .i64 n37] ∧
  nn x0 fun a38 =>
  ldP (a38.add 0) w7 fun p39 =>
  call Try.prog 33 #[.pointer p39, .int .u64 n23, .int .i64 99] w7 fun v40 w8 =>
  asS v40 fun p41 l41 c41 =>
  br p27.isNone (
  br ((n31 : Int) != 0) (
  R (.bool false) w8) (
  br ((n32 : Int) != 2) (
  R (.bool false) w8) (
  br ((n36 : Int) != 0) (
  R (.bool false) w8) (
  br ((n37 : Int) != 2) (
  R (.bool false) w8) (
  nn x0 fun a42 =>
  ldP (a42.add 0) w8 fun p43 =>
  call Try.prog 19 #[.pointer p43, .int .u64 n23] w8 fun v44 w9 =>
  asI .u32 v44 fun n45 =>
  br ((n45 : Int) != 0) (
  R (.bool false) w9) (
  br ((l41 : Int) != 0) (
  R (.bool false) w9) (
  arith .i64 (n16 + 1) fun n46 =>
  ∃ m47, m47 < m17 ∧ I13 n46 w9 m47))))))) (
  nn p27 fun a48 =>
  ldI .i64 (a48.add 3) w8.drew fun n49 =>
  br ((n31 : Int) != n49) (
  R (.bool false) w8.drew) (
  br ((n32 : Int) != 0) (
  R (.bool false) w8.drew) (
  br ((n37 : Int) != 0) (
  R (.bool false) w8.drew) (
  nn x0 fun a50 =>
  ldP (a50.add 1) w8.drew fun p51 =>
  call Try.prog 51 #[.pointer p51, .int .u64 n23] w8.drew fun v52 w10 =>
  asP v52 fun p53 =>
  nn p53 fun a54 =>
  ldI .u64 (a54.add 0) w10 fun n55 =>
  br ((n36 : Int) != n55) (
  R (.bool false) w10) (
  nn x0 fun a56 =>
  ldP (a56.add 0) w10 fun p57 =>
  nn x0 fun a58 =>
  ldP (a58.add 1) w10 fun p59 =>
  call Try.prog 19 #[.pointer p57, .int .u64 n23] w10 fun v60 w11 =>
  asI .u32 v60 fun n61 =>
  w11.cell? (a58.add 1) = some (.pointer p59) ∧
  call Try.prog 51 #[.pointer p59, .int .u64 n23] w11 fun v62 w12 =>
  asP v62 fun p63 =>
  nn p63 fun a64 =>
  ldI .u32 (a64.add 2) w12 fun n65 =>
  br ((n61 : Int) != n65) (
  R (.bool false) w12) (
  nn p27 fun a66 =>
  ldS (a66.add 4) w12 fun p67 l67 c67 =>
  br ((l41 : Int) != (l67 : Int)) (
  R (.bool false) w12) (
  ∃ I68 : Int → World → Nat → Prop, (∃ m69, I68 0 w12 m69) ∧
  ∀ (u70 : Nat → Value) (n71 : Int) (w13 : World) (m72 : Nat), I68 n71 w13 m72 →
  br (decide ((n71 : Int) < (l41 : Int))) (
  idx p41 l41 n71 2 fun a73 =>
  ldA a73 2 w13.drew fun g74 =>
  nn p27 fun a75 =>
  ldS (a75.add 4) w13.drew fun p76 l76 c76 =>
  idx p76 l76 n71 2 fun a77 =>
  ldA a77 2 w13.drew fun g78 =>
  still Try.prog (Op.equal 35 (.agg g74) (.agg g78)) fun b79 =>
  br (!b79) (
  R (.bool false) w13.drew) (
  arith .i64 (n71 + 1) fun n80 =>
  ∃ m81, m81 < m72 ∧ I68 n80 w13.drew m81)) (
  arith .i64 (n16 + 1) fun n82 =>
  ∃ m83, m83 < m17 ∧ I13 n82 w13 m83))))))))) (
  R (.bool true) w4))
@[irreducible] def tenonlaw11_Pair_alike_ann : Ann := .seq .none (.seq (.seq (.draw [[], [0], [0, 1], [0, 1, 2], [0, 1, 2, 3], [], [5], [5, 6], [5, 6, 7], [5, 6, 7, 8], [5, 6, 7, 8, 9], [5, 6, 7, 8, 9, 10], [0, 1, 2, 3, 4, 5, 6, 7, 8, 9, 10, 11], [0, 1, 2, 3, 4, 5, 6, 7, 8, 9, 10, 11, 12], [0, 1, 2, 3, 4, 5, 6, 7, 8, 9, 10, 11, 12, 13]] (ol [0, 1, 2, 3, 5, 6, 7, 8, 9, 10, 11, 4, 12, 13, 14] .nil)) .none) (.seq (.seq .none (.one (.loop [(3, .int .i64)] (.seq .none (.seq (.one (.seq .none (.seq .none (.seq .none (.seq .none (.seq .none (.seq .none (.seq (.seq (.draw [[], [], [1], [1, 2], [1, 2, 3], [0, 1, 2, 3, 4], [0, 1, 2, 3, 4, 5], [0, 1, 2, 3, 4, 5, 6], [0, 1, 2, 3, 4, 5, 6, 7], [0, 1, 2, 3, 4, 5, 6, 7, 8], [0, 1, 2, 3, 4, 5, 6, 7, 8, 9], [0, 1, 2, 3, 4, 5, 6, 7, 8, 9, 10], [0, 1, 2, 3, 4, 5, 6, 7, 8, 9, 10, 11], [0, 1, 2, 3, 4, 5, 6, 7, 8, 9, 10, 11, 12], [0, 1, 2, 3, 4, 5, 6, 7, 8, 9, 10, 11, 12, 13], [0, 1, 2, 3, 4, 5, 6, 7, 8, 9, 10, 11, 12, 13, 14], [0, 1, 2, 3, 4, 5, 6, 7, 8, 9, 10, 11, 12, 13, 14], [0, 1, 2, 3, 4, 5, 6, 7, 8, 9, 10, 11, 12, 13, 14, 16], [0, 1, 2, 3, 4, 5, 6, 7, 8, 9, 10, 11, 12, 13, 14, 16, 17], [0, 1, 2, 3, 4, 5, 6, 7, 8, 9, 10, 11, 12, 13, 14, 16, 17, 18], [0, 1, 2, 3, 4, 5, 6, 7, 8, 9, 10, 11, 12, 13, 14], [0, 1, 2, 3, 4, 5, 6, 7, 8, 9, 10, 11, 12, 13, 14, 16, 17, 18, 19, 20], [0, 1, 2, 3, 4, 5, 6, 7, 8, 9, 10, 11, 12, 13, 14, 16, 17, 18, 19, 20, 21], [0, 1, 2, 3, 4, 5, 6, 7, 8, 9, 10, 11, 12, 13, 14, 16, 17, 18, 19, 20, 21, 22], [0, 1, 2, 3, 4, 5, 6, 7, 8, 9, 10, 11, 12, 13, 14, 16, 17, 18, 19, 20, 21, 22, 23], [0, 1, 2, 3, 4, 5, 6, 7, 8, 9, 10, 11, 12, 13, 14, 15, 16, 17, 18, 19, 20, 21, 22, 23, 24], [0, 1, 2, 3, 4, 5, 6, 7, 8, 9, 10, 11, 12, 13, 14, 15, 16, 17, 18, 19, 20, 21, 22, 23, 24, 25], [0, 1, 2, 3, 4, 5, 6, 7, 8, 9, 10, 11, 12, 13, 14, 15, 16, 17, 18, 19, 20, 21, 22, 23, 24, 25, 26], [0, 1, 2, 3, 4, 5, 6, 7, 8, 9, 10, 11, 12, 13, 14, 15, 16, 17, 18, 19, 20, 21, 22, 23, 24, 25, 26, 27], [0, 1, 2, 3, 4, 5, 6, 7, 8, 9, 10, 11, 12, 13, 14, 15, 16, 17, 18, 19, 20, 21, 22, 23, 24, 25, 26, 27, 28], [0, 1, 2, 3, 4, 5, 6, 7, 8, 9, 10, 11, 12, 13, 14, 15, 16, 17, 18, 19, 20, 21, 22, 23, 24, 25, 26, 27, 28, 29], [0, 1, 2, 3, 4, 5, 6, 7, 8, 9, 10, 11, 12, 13, 14, 15, 16, 17, 18, 19, 20, 21, 22, 23, 24, 25, 26, 27, 28, 29, 30], [0, 1, 2, 3, 4, 5, 6, 7, 8, 9, 10, 11, 12, 13, 14, 15, 16, 17, 18, 19, 20, 21, 22, 23, 24, 25, 26, 27], [0, 1, 2, 3, 4, 5, 6, 7, 8, 9, 10, 11, 12, 13, 14, 15, 16, 17, 18, 19, 20, 21, 22, 23, 24, 25, 26, 27, 28, 29, 30, 31, 32], [0, 1, 2, 3, 4, 5, 6, 7, 8, 9, 10, 11, 12, 13, 14, 15, 16, 17, 18, 19, 20, 21, 22, 23, 24, 25, 26, 27], [0, 1, 2, 3, 4, 5, 6, 7, 8, 9, 10, 11, 12, 13, 14, 15, 16, 17, 18, 19, 20, 21, 22, 23, 24, 25, 26, 27, 34], [0, 1, 2, 3, 4, 5, 6, 7, 8, 9, 10, 11, 12, 13, 14, 15, 16, 17, 18, 19, 20, 21, 22, 23, 24, 25, 26, 27, 34, 35], [0, 1, 2, 3, 4, 5, 6, 7, 8, 9, 10, 11, 12, 13, 14, 15, 16, 17, 18, 19, 20, 21, 22, 23, 24, 25, 26, 27, 34, 35, 36], [0, 1, 2, 3, 4, 5, 6, 7, 8, 9, 10, 11, 12, 13, 14, 15, 16, 17, 18, 19, 20, 21, 22, 23, 24, 25, 26, 27], [0, 1, 2, 3, 4, 5, 6, 7, 8, 9, 10, 11, 12, 13, 14, 15, 16, 17, 18, 19, 20, 21, 22, 23, 24, 25, 26, 27, 28, 29, 30, 31, 32, 33, 34, 35, 36, 37, 38], [0, 1, 2, 3, 4, 5, 6, 7, 8, 9, 10, 11, 12, 13, 14, 15, 16, 17, 18, 19, 20, 21, 22, 23, 24, 25, 26, 27, 28, 29, 30, 31, 32, 33, 34, 35, 36, 37, 38, 39], [0, 1, 2, 3, 4, 5, 6, 7, 8, 9, 10, 11, 12, 13, 14, 15, 16, 17, 18, 19, 20, 21, 22, 23, 24, 25, 26, 27, 28, 29, 30, 31, 32, 33, 34, 35, 36, 37, 38, 39, 40], [0, 1, 2, 3, 4, 5, 6, 7, 8, 9, 10, 11, 12, 13, 14, 15, 16, 17, 18, 19, 20, 21, 22, 23, 24, 25, 26, 27, 28, 29, 30, 31, 32, 33, 34, 35, 36, 37, 38, 39, 40, 41], [0, 1, 2, 3, 4, 5, 6, 7, 8, 9, 10, 11, 12, 13, 14, 15, 16, 17, 18, 19, 20, 21, 22, 23, 24, 25, 26, 27, 28, 29, 30, 31, 32, 33, 34, 35, 36, 37, 38, 39, 40, 41, 42], [0, 1, 2, 3, 4, 5, 6, 7, 8, 9, 10, 11, 12, 13, 14, 15, 16, 17, 18, 19, 20, 21, 22, 23, 24, 25, 26, 27, 28, 29, 30, 31, 32, 33, 34, 35, 36, 37, 38, 39, 40, 41, 42, 43], [0, 1, 2, 3, 4, 5, 6, 7, 8, 9, 10, 11, 12, 13, 14, 15, 16, 17, 18, 19, 20, 21, 22, 23, 24, 25, 26, 27, 28, 29, 30, 31, 32, 33, 34, 35, 36, 37, 38, 39, 40, 41, 42, 43, 44], [0, 1, 2, 3, 4, 5, 6, 7, 8, 9, 10, 11, 12, 13, 14, 15, 16, 17, 18, 19, 20, 21, 22, 23, 24, 25, 26, 27, 28, 29, 30, 31, 32, 33, 34, 35, 36, 37, 38, 39, 40, 41, 42, 43, 44, 45], [0, 1, 2, 3, 4, 5, 6, 7, 8, 9, 10, 11, 12, 13, 14, 15, 16, 17, 18, 19, 20, 21, 22, 23, 24, 25, 26, 27, 28, 29, 30, 31, 32, 33, 34, 35, 36, 37, 38, 39, 40, 41, 42, 43, 44, 45, 46], [0, 1, 2, 3, 4, 5, 6, 7, 8, 9, 10, 11, 12, 13, 14, 15, 16, 17, 18, 19, 20, 21, 22, 23, 24, 25, 26, 27, 28, 29, 30, 31, 32, 33, 34, 35, 36, 37, 38, 39, 40, 41, 42, 43, 44, 45], [0, 1, 2, 3, 4, 5, 6, 7, 8, 9, 10, 11, 12, 13, 14, 15, 16, 17, 18, 19, 20, 21, 22, 23, 24, 25, 26, 27, 28, 29, 30, 31, 32, 33, 34, 35, 36, 37, 38, 39, 40, 41, 42, 43, 44, 45, 48], [0, 1, 2, 3, 4, 5, 6, 7, 8, 9, 10, 11, 12, 13, 14, 15, 16, 17, 18, 19, 20, 21, 22, 23, 24, 25, 26, 27, 28, 29, 30, 31, 32, 33, 34, 35, 36, 37, 38, 39, 40, 41, 42, 43, 44, 45, 48, 49], [0, 1, 2, 3, 4, 5, 6, 7, 8, 9, 10, 11, 12, 13, 14, 15, 16, 17, 18, 19, 20, 21, 22, 23, 24, 25, 26, 27, 28, 29, 30, 31, 32, 33, 34, 35, 36, 37, 38, 39, 40, 41, 42, 43, 44, 45, 48, 49, 50], [0, 1, 2, 3, 4, 5, 6, 7, 8, 9, 10, 11, 12, 13, 14, 15, 16, 17, 18, 19, 20, 21, 22, 23, 24, 25, 26, 27, 28, 29, 30, 31, 32, 33, 34, 35, 36, 37, 38, 39, 40, 41, 42, 43, 44, 45, 48, 49, 50, 51], [0, 1, 2, 3, 4, 5, 6, 7, 8, 9, 10, 11, 12, 13, 14, 15, 16, 17, 18, 19, 20, 21, 22, 23, 24, 25, 26, 27, 28, 29, 30, 31, 32, 33, 34, 35, 36, 37, 38, 39, 40, 41, 42, 43, 44, 45, 46, 47, 48, 49, 50, 51, 52], [0, 1, 2, 3, 4, 5, 6, 7, 8, 9, 10, 11, 12, 13, 14, 15, 16, 17, 18, 19, 20, 21, 22, 23, 24, 25, 26, 27, 28, 29, 30, 31, 32, 33, 34, 35, 36, 37, 38, 39, 40, 41, 42, 43, 44, 45, 46, 47, 48, 49, 50, 51, 52, 53]] (ol [0, 1, 2, 3, 4, 5, 6, 7, 8, 9, 10, 11, 12, 13, 14, 15, 16, 17, 18, 19, 20, 21, 22, 23, 24, 25, 26, 27, 28, 29, 30, 31, 32, 34, 35, 36, 37, 38, 33, 39, 40, 41, 42, 43, 44, 45, 46, 47, 48, 49, 50, 51, 52, 53, 54] .nil)) .none) (.seq .none (.one (.loop [(11, .int .i64)] (.seq .none (.seq (.one (.seq (.draw [[], [], [0, 1], [0, 1, 2], [], [4], [4, 5], [4, 5, 6], [], [4, 5, 6, 7, 8], [4, 5, 6, 7, 8, 9], [0, 1, 2, 3, 4, 5, 6, 7, 8, 9, 10]] (ol [0, 1, 2, 3, 4, 5, 6, 7, 8, 9, 10, 11] .nil)) .none)) .none))))))))))))) .none))))) .none))
theorem tenonlaw11_Pair_alike_call {x0 : Option Addr} {R : Value → World → Prop} {w : World} (h : tenonlaw11_Pair_alike x0 R w) : call Try.prog 24 #[.pointer x0] w R :=
  call_of_fnW plain mixed Try.func24 tenonlaw11_Pair_alike_ann (Eq.mp (by kernel_rfl : tenonlaw11_Pair_alike x0 R w = fnW Try.prog Try.f24 tenonlaw11_Pair_alike_ann #[.pointer x0] R w) h)

def heap_Heap_Graph (x0 : Option Addr) (R : Value → World → Prop) (w : World) : Prop :=
  new #[.pointer x0] 23 w fun k1 w1 =>
  new #[.slice none 0 0, .slice none 0 0] 61 w1 fun k2 w2 =>
  new #[.slice none 0 0] 28 w2 fun k3 w3 =>
  newM w3 fun k4 w4 =>
  new #[.map none] 117 w4 fun k5 w5 =>
  st (⟨k5, 0, none⟩ : Addr) (.map (some k4)) w5 fun w6 =>
  ldP (⟨k1, 0, none⟩ : Addr) w6 fun p6 =>
  call Try.prog 41 #[.pointer p6] w6 fun v7 w7 =>
  asF v7 fun f8 q8 t8 =>
  rangeW Try.prog (.func f8 q8 t8) 1 (fun xs9 N10 J11 T12 w8 => ∃ (n13 : Int), xs9 = #[.int .u64 n13] ∧
  T12 w8 fun w9 =>
  ldP (⟨k1, 0, none⟩ : Addr) w9 fun p14 =>
  call Try.prog 30 #[.pointer p14, .int .u64 n13] w9 fun v15 w10 =>
  ∃ (n16 : Int) (n17 : Int),
  v15 = .tuple #[.int .u64 n16, .int .i64 n17] ∧
  br ((n16 : Int) == n13) (
  ldM (⟨k5, 0, none⟩ : Addr) w10 fun r18 =>
  ldS (⟨k3, 0, none⟩ : Addr) w10 fun p19 l19 c19 =>
  setM Try.prog 117 r18 (.int .u64 n13) (.int .i64 ((l19 : Int))) w10 fun w11 =>
  ldS (⟨k3, 0, none⟩ : Addr) w11 fun p20 l20 c20 =>
  new #[.int .u64 n13] 29 w11 fun k21 w12 =>
  runsS Try.prog (Builtin.append_ #[28, 28] 28 #[.slice p20 l20 c20, .slice (some (⟨k21, 0, none⟩ : Addr)) 1 1]) w12 fun p22 l22 c22 w13 =>
  st (⟨k3, 0, none⟩ : Addr) (.slice p22 l22 c22) w13 fun w14 =>
  N10 w14) (
  N10 w10)) (fun D23 w15 =>
  new #[.slice none 0 0, .slice none 0 0] 61 w15 fun k24 w16 =>
  ldS (⟨k3, 0, none⟩ : Addr) w16 fun p25 l25 c25 =>
  ∃ I26 : Int → List Deferred → World → Nat → Prop, (∃ m27, I26 0 (({ target := .collected D23, args := #[] } : Deferred) :: []) w16 m27) ∧
  ∀ (u28 : Nat → Value) (ds30 : List Deferred) (n29 : Int) (w17 : World) (m31 : Nat), I26 n29 ds30 w17 m31 →
  br (decide ((n29 : Int) < (l25 : Int))) (
  idx p25 l25 n29 1 fun a32 =>
  ldI .u64 a32 w17 fun n33 =>
  ldP (⟨k1, 0, none⟩ : Addr) w17 fun p34 =>
  call Try.prog 35 #[.pointer p34, .int .u64 n33] w17 fun v35 w18 =>
  ∃ (p36 : Option Addr) (n37 : Int),
  v35 = .tuple #[.pointer p36, .int .i64 n37] ∧
  new #[.slice none 0 0] 43 w18 fun k38 w19 =>
  new #[.int .u64 n33] 29 w19 fun k39 w20 =>
  nn p36 fun a40 =>
  ldS (a40.add 4) w20 fun p41 l41 c41 =>
  runsS Try.prog (Builtin.append_ #[28, 28] 28 #[.slice (some (⟨k39, 0, none⟩ : Addr)) 1 1, .slice p41 l41 c41]) w20 fun p42 l42 c42 w21 =>
  ∃ I43 : Int → List Deferred → World → Nat → Prop, (∃ m44, I43 0 ds30 w21 m44) ∧
  ∀ (u45 : Nat → Value) (ds47 : List Deferred) (n46 : Int) (w22 : World) (m48 : Nat), I43 n46 ds47 w22 m48 →
  br (decide ((n46 : Int) < (l42 : Int))) (
  idx p42 l42 n46 1 fun a49 =>
  ldI .u64 a49 w22 fun n50 =>
  ldP (⟨k1, 0, none⟩ : Addr) w22 fun p51 =>
  call Try.prog 52 #[.pointer p51, .int .u64 n50] w22 fun v52 w23 =>
  asF v52 fun f53 q53 t53 =>
  rangeW Try.prog (.func f53 q53 t53) 2 (fun xs54 N55 J56 T57 w24 => ∃ (n58 : Int) (g59 : Array Value), xs54 = #[.int .i64 n58, .agg g59] ∧
  new #[.int .i64 0, .int .u64 0] 35 w24 fun k60 w25 =>
  stA Try.prog (⟨k60, 0, none⟩ : Addr) 2 g59 w25 fun w26 =>
  T57 w26 fun w27 =>
  ldI .i64 ((⟨k60, 0, none⟩ : Addr).add 0) w27 fun n61 =>
  br ((n61 : Int) != 1) (
  N55 w27) (
  ldP (⟨k1, 0, none⟩ : Addr) w27 fun p62 =>
  ldI .u64 ((⟨k60, 0, none⟩ : Addr).add 1) w27 fun n63 =>
  call Try.prog 30 #[.pointer p62, .int .u64 n63] w27 fun v64 w28 =>
  ∃ (n65 : Int) (n66 : Int),
  v64 = .tuple #[.int .u64 n65, .int .i64 n66] ∧
  br ((n66 : Int) == 0) (
  ldS (⟨k38, 0, none⟩ : Addr) w28 fun p67 l67 c67 =>
  ldM (⟨k5, 0, none⟩ : Addr) w28 fun r68 =>
  lookW Try.prog 117 r68 (.int .u64 n65) false w28 fun v69 =>
  asI .i64 v69 fun n70 =>
  new #[.int .i64 n70] 3 w28 fun k71 w29 =>
  runsS Try.prog (Builtin.append_ #[43, 43] 43 #[.slice p67 l67 c67, .slice (some (⟨k71, 0, none⟩ : Addr)) 1 1]) w29 fun p72 l72 c72 w30 =>
  st (⟨k38, 0, none⟩ : Addr) (.slice p72 l72 c72) w30 fun w31 =>
  N55 w31) (
  N55 w28))) (fun D73 w32 =>
  arith .i64 (n46 + 1) fun n74 =>
  ∃ m75, m75 < m48 ∧ I43 n74 (({ target := .collected D73, args := #[] } : Deferred) :: ds47) w32 m75) (fun D76 c77 w33 => jmp c77 (
  False) []) w23) (
  ldS ((⟨k24, 0, none⟩ : Addr).add 0) w22.drew fun p78 l78 c78 =>
  nn p36 fun a79 =>
  ldI .u32 (a79.add 0) w22.drew fun n80 =>
  new #[.int .u32 n80] 27 w22.drew fun k81 w34 =>
  runsS Try.prog (Builtin.append_ #[58, 58] 58 #[.slice p78 l78 c78, .slice (some (⟨k81, 0, none⟩ : Addr)) 1 1]) w34 fun p82 l82 c82 w35 =>
  st ((⟨k24, 0, none⟩ : Addr).add 0) (.slice p82 l82 c82) w35 fun w36 =>
  ldS ((⟨k24, 0, none⟩ : Addr).add 1) w36 fun p83 l83 c83 =>
  ldS (⟨k38, 0, none⟩ : Addr) w36 fun p84 l84 c84 =>
  new #[.slice p84 l84 c84] 43 w36 fun k85 w37 =>
  runsS Try.prog (Builtin.append_ #[59, 59] 59 #[.slice p83 l83 c83, .slice (some (⟨k85, 0, none⟩ : Addr)) 1 1]) w37 fun p86 l86 c86 w38 =>
  st ((⟨k24, 0, none⟩ : Addr).add 1) (.slice p86 l86 c86) w38 fun w39 =>
  arith .i64 (n29 + 1) fun n87 =>
  ∃ m88, m88 < m31 ∧ I26 n87 ds47 w39 m88)) (
  ldA (⟨k24, 0, none⟩ : Addr) 2 w17.drew fun g89 =>
  ldS (⟨k3, 0, none⟩ : Addr) w17.drew fun p90 l90 c90 =>
  stA Try.prog (⟨k2, 0, none⟩ : Addr) 2 g89 w17.drew fun w40 =>
  w40.cell? (⟨k3, 0, none⟩ : Addr) = some (.slice p90 l90 c90) ∧
  marksW ds30 w40 fun w41 =>
  ldA (⟨k2, 0, none⟩ : Addr) 2 w41 fun g91 =>
  R (.tuple #[.agg g91, .slice p90 l90 c90]) w41)) (fun D92 c93 w42 => jmp c93 (
  False) []) w7
@[irreducible] def heap_Heap_Graph_ann : Ann := .seq .none (.seq .none (.seq .none (.seq (.seq .none (.one (.range [.int .u64] .none .none))) (.seq .none (.seq (.seq .none (.one (.loop [(44, .int .i64)] (.seq .none (.seq .none (.seq (.one (.seq .none (.seq .none (.seq .none (.seq (.seq .none (.one (.loop [(62, .int .i64)] (.seq .none (.seq .none (.seq (.one (.seq .none (.seq .none (.one (.range [.int .i64, .agg] .none .none))))) .none)))))) (.seq (.draw [[], [0], [], [2], [2, 3], [2, 3, 4], [2, 3, 4, 5], [0, 1, 2, 3, 4, 5, 6], [0, 1, 2, 3, 4, 5, 6, 7], [0, 1, 2, 3, 4, 5, 6, 7, 8]] (ol [0, 1, 2, 3, 4, 5, 6, 7, 8, 9] .nil)) .none)))))) .none)))))) (.seq (.draw [[], [], [0], [0, 1, 2]] (ol [0, 1, 2, 3] .nil)) .none))))))
theorem heap_Heap_Graph_call {x0 : Option Addr} {R : Value → World → Prop} {w : World} (h : heap_Heap_Graph x0 R w) : call Try.prog 25 #[.pointer x0] w R :=
  call_of_fnW plain mixed Try.func25 heap_Heap_Graph_ann (Eq.mp (by kernel_rfl : heap_Heap_Graph x0 R w = fnW Try.prog Try.f25 heap_Heap_Graph_ann #[.pointer x0] R w) h)

def tenonref11_Heap_Graph (x0 : Option Addr) (R : Value → World → Prop) (w : World) : Prop :=
  new #[.slice none 0 0, .slice none 0 0] 61 w fun k1 w1 =>
  nn x0 fun a2 =>
  ldP (a2.add 1) w1 fun p3 =>
  call Try.prog 28 #[.pointer p3] w1 fun v4 w2 =>
  asS v4 fun p5 l5 c5 =>
  ∃ I6 : Option Addr → Nat → Nat → Int → World → Nat → Prop, (∃ m7, I6 none 0 0 0 w2 m7) ∧
  ∀ (u8 : Nat → Value) (p9 : Option Addr) (l9 c9 : Nat) (n10 : Int) (w3 : World) (m11 : Nat), I6 p9 l9 c9 n10 w3 m11 →
  br (decide ((n10 : Int) < (l5 : Int))) (
  idx p5 l5 n10 1 fun a12 =>
  ldI .u64 a12 w3 fun n13 =>
  call Try.prog 50 #[.pointer x0, .int .u64 n13] w3 fun v14 w4 =>
  asP v14 fun p15 =>
  nn p15 fun a16 =>
  ldI .u64 (a16.add 1) w4 fun n17 =>
  br ((n17 : Int) == 0) (
  idx p5 l5 n10 1 fun a18 =>
  ldI .u64 a18 w4 fun n19 =>
  new #[.int .u64 n19] 29 w4 fun k20 w5 =>
  runsS Try.prog (Builtin.append_ #[28, 28] 28 #[.slice p9 l9 c9, .slice (some (⟨k20, 0, none⟩ : Addr)) 1 1]) w5 fun p21 l21 c21 w6 =>
  arith .i64 (n10 + 1) fun n22 =>
  ∃ m23, m23 < m11 ∧ I6 p21 l21 c21 n22 w6 m23) (
  arith .i64 (n10 + 1) fun n24 =>
  ∃ m25, m25 < m11 ∧ I6 p9 l9 c9 n24 w4 m25)) (
  new #[.slice none 0 0, .slice none 0 0] 61 w3 fun k26 w7 =>
  ∃ I27 : Int → World → Nat → Prop, (∃ m28, I27 0 w7 m28) ∧
  ∀ (u29 : Nat → Value) (n30 : Int) (w8 : World) (m31 : Nat), I27 n30 w8 m31 →
  br (decide ((n30 : Int) < (l9 : Int))) (
  idx p9 l9 n30 1 fun a32 =>
  ldI .u64 a32 w8 fun n33 =>
  call Try.prog 50 #[.pointer x0, .int .u64 n33] w8 fun v34 w9 =>
  asP v34 fun p35 =>
  nn p35 fun a36 =>
  ldS (a36.add 4) w9 fun p37 l37 c37 =>
  runsS Try.prog (Builtin.append_ #[78, 78] 78 #[.slice none 0 0, .slice p37 l37 c37]) w9 fun p38 l38 c38 w10 =>
  ∃ I39 : Option Addr → Nat → Nat → Int → World → Nat → Prop, (∃ m40, I39 p38 l38 c38 0 w10 m40) ∧
  ∀ (u41 : Nat → Value) (p42 : Option Addr) (l42 c42 : Nat) (n43 : Int) (w11 : World) (m44 : Nat), I39 p42 l42 c42 n43 w11 m44 →
  nn p35 fun a45 =>
  ldS (a45.add 5) w11 fun p46 l46 c46 =>
  br (decide ((n43 : Int) < (l46 : Int))) (
  nn p35 fun a47 =>
  ldS (a47.add 5) w11 fun p48 l48 c48 =>
  idx p48 l48 n43 1 fun a49 =>
  ldI .u64 a49 w11 fun n50 =>
  call Try.prog 50 #[.pointer x0, .int .u64 n50] w11 fun v51 w12 =>
  asP v51 fun p52 =>
  nn p52 fun a53 =>
  ldS (a53.add 4) w12 fun p54 l54 c54 =>
  runsS Try.prog (Builtin.append_ #[78, 78] 78 #[.slice p42 l42 c42, .slice p54 l54 c54]) w12 fun p55 l55 c55 w13 =>
  arith .i64 (n43 + 1) fun n56 =>
  ∃ m57, m57 < m44 ∧ I39 p55 l55 c55 n56 w13 m57) (
  ∃ I58 : Option Addr → Nat → Nat → Int → World → Nat → Prop, (∃ m59, I58 none 0 0 0 w11 m59) ∧
  ∀ (u60 : Nat → Value) (p61 : Option Addr) (l61 c61 : Nat) (n62 : Int) (w14 : World) (m63 : Nat), I58 p61 l61 c61 n62 w14 m63 →
  br (decide ((n62 : Int) < (l42 : Int))) (
  idx p42 l42 n62 2 fun a64 =>
  ldI .i64 (a64.add 0) w14 fun n65 =>
  br ((n65 : Int) != 1) (
  arith .i64 (n62 + 1) fun n66 =>
  ∃ m67, m67 < m63 ∧ I58 p61 l61 c61 n66 w14 m67) (
  idx p42 l42 n62 2 fun a68 =>
  ldI .u64 (a68.add 1) w14 fun n69 =>
  call Try.prog 51 #[.pointer x0, .int .u64 n69] w14 fun v70 w15 =>
  asP v70 fun p71 =>
  br p71.isNone (
  arith .i64 (n62 + 1) fun n72 =>
  ∃ m73, m73 < m63 ∧ I58 p61 l61 c61 n72 w15 m73) (
  ∃ I74 : Option Addr → Nat → Nat → Int → World → Nat → Prop, (∃ m75, I74 p61 l61 c61 0 w15 m75) ∧
  ∀ (u76 : Nat → Value) (p77 : Option Addr) (l77 c77 : Nat) (n78 : Int) (w16 : World) (m79 : Nat), I74 p77 l77 c77 n78 w16 m79 →
  br (decide ((n78 : Int) < (l9 : Int))) (
  idx p9 l9 n78 1 fun a80 =>
  ldI .u64 a80 w16.drew fun n81 =>
  idx p42 l42 n62 2 fun a82 =>
  ldI .u64 (a82.add 1) w16.drew fun n83 =>
  call Try.prog 51 #[.pointer x0, .int .u64 n83] w16.drew fun v84 w17 =>
  asP v84 fun p85 =>
  w17.cell? a80 = some (.int .u64 n81) ∧
  nn p85 fun a86 =>
  ldI .u64 (a86.add 0) w17 fun n87 =>
  br ((n81 : Int) == n87) (
  new #[.int .i64 n78] 3 w17 fun k88 w18 =>
  runsS Try.prog (Builtin.append_ #[43, 43] 43 #[.slice p77 l77 c77, .slice (some (⟨k88, 0, none⟩ : Addr)) 1 1]) w18 fun p89 l89 c89 w19 =>
  arith .i64 (n78 + 1) fun n90 =>
  ∃ m91, m91 < m79 ∧ I74 p89 l89 c89 n90 w19 m91) (
  arith .i64 (n78 + 1) fun n92 =>
  ∃ m93, m93 < m79 ∧ I74 p77 l77 c77 n92 w17 m93)) (
  arith .i64 (n62 + 1) fun n94 =>
  ∃ m95, m95 < m63 ∧ I58 p77 l77 c77 n94 w16 m95)))) (
  ldS ((⟨k26, 0, none⟩ : Addr).add 0) w14.drew fun p96 l96 c96 =>
  nn p35 fun a97 =>
  ldI .u32 (a97.add 2) w14.drew fun n98 =>
  new #[.int .u32 n98] 27 w14.drew fun k99 w20 =>
  runsS Try.prog (Builtin.append_ #[58, 58] 58 #[.slice p96 l96 c96, .slice (some (⟨k99, 0, none⟩ : Addr)) 1 1]) w20 fun p100 l100 c100 w21 =>
  st ((⟨k26, 0, none⟩ : Addr).add 0) (.slice p100 l100 c100) w21 fun w22 =>
  ldS ((⟨k26, 0, none⟩ : Addr).add 1) w22 fun p101 l101 c101 =>
  new #[.slice p61 l61 c61] 43 w22 fun k102 w23 =>
  runsS Try.prog (Builtin.append_ #[59, 59] 59 #[.slice p101 l101 c101, .slice (some (⟨k102, 0, none⟩ : Addr)) 1 1]) w23 fun p103 l103 c103 w24 =>
  st ((⟨k26, 0, none⟩ : Addr).add 1) (.slice p103 l103 c103) w24 fun w25 =>
  arith .i64 (n30 + 1) fun n104 =>
  ∃ m105, m105 < m31 ∧ I27 n104 w25 m105))) (
  ldA (⟨k26, 0, none⟩ : Addr) 2 w8 fun g106 =>
  stA Try.prog (⟨k1, 0, none⟩ : Addr) 2 g106 w8 fun w26 =>
  ldA (⟨k1, 0, none⟩ : Addr) 2 w26 fun g107 =>
  R (.tuple #[.agg g107, .slice p9 l9 c9]) w26))
@[irreducible] def tenonref11_Heap_Graph_ann : Ann := .seq .none (.seq .none (.seq .none (.seq (.seq .none (.one (.loop [(4, .slice), (6, .int .i64)] .none))) (.seq .none (.seq (.seq .none (.one (.loop [(8, .int .i64)] (.seq .none (.seq (.one (.seq .none (.seq .none (.seq .none (.seq (.seq .none (.one (.loop [(10, .slice), (11, .int .i64)] .none))) (.seq .none (.seq (.seq .none (.one (.loop [(12, .slice), (13, .int .i64)] (.seq .none (.seq (.one (.seq .none (.seq .none (.one (.loop [(12, .slice), (14, .int .i64)] (.seq .none (.seq (.one (.seq (.draw [[], [], [0, 1], [0, 1, 2], [], [], [], [5, 6], [5, 6, 7], [5, 6, 7, 8], [4, 5, 6, 7, 8, 9], [4, 5, 6, 7, 8, 9, 10], [4, 5, 6, 7, 8, 9, 10, 11], [4, 5, 6, 7, 8, 9, 10, 11, 12], [0, 1, 2, 3, 4, 5, 6, 7, 8, 9, 10, 11, 12, 13]] (ol [0, 1, 2, 3, 4, 5, 6, 7, 8, 9, 10, 11, 12, 13, 14] .nil)) .none)) .none))))))) .none))))) (.seq (.draw [[], [0], [], [2], [2, 3], [2, 3, 4], [2, 3, 4, 5], [0, 1, 2, 3, 4, 5, 6], [0, 1, 2, 3, 4, 5, 6, 7], [0, 1, 2, 3, 4, 5, 6, 7, 8]] (ol [0, 1, 2, 3, 4, 5, 6, 7, 8, 9] .nil)) .none)))))))) .none))))) .none)))))
theorem tenonref11_Heap_Graph_call {x0 : Option Addr} {R : Value → World → Prop} {w : World} (h : tenonref11_Heap_Graph x0 R w) : call Try.prog 26 #[.pointer x0] w R :=
  call_of_fnW plain mixed Try.func26 tenonref11_Heap_Graph_ann (Eq.mp (by kernel_rfl : tenonref11_Heap_Graph x0 R w = fnW Try.prog Try.f26 tenonref11_Heap_Graph_ann #[.pointer x0] R w) h)

def tenonref11_SameGraph (x0 : Array Value) (x1 : Array Value) (R : Value → World → Prop) (w : World) : Prop :=
  new x0 61 w fun k1 w1 =>
  new x1 61 w1 fun k2 w2 =>
  ldS ((⟨k1, 0, none⟩ : Addr).add 0) w2 fun p3 l3 c3 =>
  ldS ((⟨k2, 0, none⟩ : Addr).add 0) w2 fun p4 l4 c4 =>
  br ((l3 : Int) != (l4 : Int)) (
  R (.bool false) w2) (
  ldS ((⟨k1, 0, none⟩ : Addr).add 1) w2 fun p5 l5 c5 =>
  ldS ((⟨k2, 0, none⟩ : Addr).add 1) w2 fun p6 l6 c6 =>
  br ((l5 : Int) != (l6 : Int)) (
  R (.bool false) w2) (
  ∃ I7 : Int → World → Nat → Prop, (∃ m8, I7 0 w2 m8) ∧
  ∀ (u9 : Nat → Value) (n10 : Int) (w3 : World) (m11 : Nat), I7 n10 w3 m11 →
  ldS ((⟨k1, 0, none⟩ : Addr).add 0) w3 fun p12 l12 c12 =>
  br (decide ((n10 : Int) < (l12 : Int))) (
  ldS ((⟨k1, 0, none⟩ : Addr).add 0) w3.drew fun p13 l13 c13 =>
  idx p13 l13 n10 1 fun a14 =>
  ldI .u32 a14 w3.drew fun n15 =>
  ldS ((⟨k2, 0, none⟩ : Addr).add 0) w3.drew fun p16 l16 c16 =>
  idx p16 l16 n10 1 fun a17 =>
  ldI .u32 a17 w3.drew fun n18 =>
  br ((n15 : Int) != n18) (
  R (.bool false) w3.drew) (
  ldS ((⟨k1, 0, none⟩ : Addr).add 1) w3.drew fun p19 l19 c19 =>
  idx p19 l19 n10 1 fun a20 =>
  ldS a20 w3.drew fun p21 l21 c21 =>
  ldS ((⟨k2, 0, none⟩ : Addr).add 1) w3.drew fun p22 l22 c22 =>
  idx p22 l22 n10 1 fun a23 =>
  ldS a23 w3.drew fun p24 l24 c24 =>
  br ((l21 : Int) != (l24 : Int)) (
  R (.bool false) w3.drew) (
  ∃ I25 : Int → World → Nat → Prop, (∃ m26, I25 0 w3.drew m26) ∧
  ∀ (u27 : Nat → Value) (n28 : Int) (w4 : World) (m29 : Nat), I25 n28 w4 m29 →
  ldS ((⟨k1, 0, none⟩ : Addr).add 1) w4 fun p30 l30 c30 =>
  idx p30 l30 n10 1 fun a31 =>
  ldS a31 w4 fun p32 l32 c32 =>
  br (decide ((n28 : Int) < (l32 : Int))) (
  ldS ((⟨k1, 0, none⟩ : Addr).add 1) w4.drew fun p33 l33 c33 =>
  idx p33 l33 n10 1 fun a34 =>
  ldS a34 w4.drew fun p35 l35 c35 =>
  idx p35 l35 n28 1 fun a36 =>
  ldI .i64 a36 w4.drew fun n37 =>
  ldS ((⟨k2, 0, none⟩ : Addr).add 1) w4.drew fun p38 l38 c38 =>
  idx p38 l38 n10 1 fun a39 =>
  ldS a39 w4.drew fun p40 l40 c40 =>
  idx p40 l40 n28 1 fun a41 =>
  ldI .i64 a41 w4.drew fun n42 =>
  br ((n37 : Int) != n42) (
  R (.bool false) w4.drew) (
  arith .i64 (n28 + 1) fun n43 =>
  ∃ m44, m44 < m29 ∧ I25 n43 w4.drew m44)) (
  arith .i64 (n10 + 1) fun n45 =>
  ∃ m46, m46 < m11 ∧ I7 n45 w4 m46)))) (
  R (.bool true) w3)))
@[irreducible] def tenonref11_SameGraph_ann : Ann := .seq .none (.seq .none (.seq (.seq .none (.one (.loop [(5, .int .i64)] (.seq .none (.seq (.one (.seq (.seq (.draw [[], [0], [], [0, 1, 2], [0, 1, 2, 3], [], [5], [], [5, 6, 7], [5, 6, 7, 8], [0, 1, 2, 3, 4, 5, 6, 7, 8, 9], [0, 1, 2, 3, 4, 5, 6, 7, 8, 9, 10], [0, 1, 2, 3, 4, 5, 6, 7, 8, 9, 10, 11], [0, 1, 2, 3, 4, 5, 6, 7, 8, 9, 10, 11, 12], [0, 1, 2, 3, 4, 5, 6, 7, 8, 9, 10, 11], [0, 1, 2, 3, 4, 5, 6, 7, 8, 9, 10, 11, 12, 13, 14], [0, 1, 2, 3, 4, 5, 6, 7, 8, 9, 10, 11, 12, 13, 14, 15], [0, 1, 2, 3, 4, 5, 6, 7, 8, 9, 10, 11, 12, 13, 14, 15, 16], [0, 1, 2, 3, 4, 5, 6, 7, 8, 9, 10, 11], [0, 1, 2, 3, 4, 5, 6, 7, 8, 9, 10, 11, 18], [0, 1, 2, 3, 4, 5, 6, 7, 8, 9, 10, 11], [0, 1, 2, 3, 4, 5, 6, 7, 8, 9, 10, 11, 18, 19, 20], [0, 1, 2, 3, 4, 5, 6, 7, 8, 9, 10, 11, 18, 19, 20, 21], [0, 1, 2, 3, 4, 5, 6, 7, 8, 9, 10, 11, 18, 19, 20, 21, 22], [0, 1, 2, 3, 4, 5, 6, 7, 8, 9, 10, 11, 12, 13, 14, 15, 16, 17, 18, 19, 20, 21, 22, 23], [0, 1, 2, 3, 4, 5, 6, 7, 8, 9, 10, 11, 12, 13, 14, 15, 16, 17, 18, 19, 20, 21, 22, 23, 24]] (ol [0, 1, 2, 3, 4, 5, 6, 7, 8, 9, 10, 11, 12, 13, 14, 15, 16, 17, 18, 19, 20, 21, 22, 23, 24, 25] .nil)) .none) (.seq .none (.one (.loop [(6, .int .i64)] (.seq .none (.seq (.one (.seq (.draw [[], [0], [], [0, 1, 2], [0, 1, 2, 3], [], [0, 1, 2, 3, 4, 5], [0, 1, 2, 3, 4, 5, 6], [], [8], [], [8, 9, 10], [8, 9, 10, 11], [], [8, 9, 10, 11, 12, 13], [8, 9, 10, 11, 12, 13, 14], [0, 1, 2, 3, 4, 5, 6, 7, 8, 9, 10, 11, 12, 13, 14, 15]] (ol [0, 1, 2, 3, 4, 5, 6, 7, 8, 9, 10, 11, 12, 13, 14, 15, 16] .nil)) .none)) .none))))))) .none))))) .none))
theorem tenonref11_SameGraph_call {x0 : Array Value} {x1 : Array Value} {R : Value → World → Prop} {w : World} (h : tenonref11_SameGraph x0 x1 R w) : call Try.prog 27 #[.agg x0, .agg x1] w R :=
  call_of_fnW plain mixed Try.func27 tenonref11_SameGraph_ann (Eq.mp (by kernel_rfl : tenonref11_SameGraph x0 x1 R w = fnW Try.prog Try.f27 tenonref11_SameGraph_ann #[.agg x0, .agg x1] R w) h)

def tenonref02_Arena_All (x0 : Option Addr) (R : Value → World → Prop) (w : World) : Prop :=
  ∃ I1 : Option Addr → Nat → Nat → Int → World → Nat → Prop, (∃ m2, I1 none 0 0 0 w m2) ∧
  ∀ (u3 : Nat → Value) (p4 : Option Addr) (l4 c4 : Nat) (n5 : Int) (w1 : World) (m6 : Nat), I1 p4 l4 c4 n5 w1 m6 →
  nn x0 fun a7 =>
  ldS (a7.add 2) w1 fun p8 l8 c8 =>
  br (decide ((n5 : Int) < (l8 : Int))) (
  nn x0 fun a9 =>
  ldS (a9.add 2) w1 fun p10 l10 c10 =>
  idx p10 l10 n5 3 fun a11 =>
  ldI .i64 (a11.add 2) w1 fun n12 =>
  br ((n12 : Int) == 1) (
  nn x0 fun a13 =>
  ldS (a13.add 2) w1 fun p14 l14 c14 =>
  idx p14 l14 n5 3 fun a15 =>
  ldI .u32 (a15.add 1) w1 fun n16 =>
  call Try.prog 53 #[.int .i64 n5, .int .u32 n16] w1 fun v17 w2 =>
  asI .u64 v17 fun n18 =>
  new #[.int .u64 n18] 29 w2 fun k19 w3 =>
  runsS Try.prog (Builtin.append_ #[28, 28] 28 #[.slice p4 l4 c4, .slice (some (⟨k19, 0, none⟩ : Addr)) 1 1]) w3 fun p20 l20 c20 w4 =>
  arith .i64 (n5 + 1) fun n21 =>
  ∃ m22, m22 < m6 ∧ I1 p20 l20 c20 n21 w4 m22) (
  arith .i64 (n5 + 1) fun n23 =>
  ∃ m24, m24 < m6 ∧ I1 p4 l4 c4 n23 w1 m24)) (
  R (.slice p4 l4 c4) w1)
@[irreducible] def tenonref02_Arena_All_ann : Ann := .seq .none (.seq .none (.seq (.seq .none (.one (.loop [(3, .slice), (4, .int .i64)] .none))) .none))
theorem tenonref02_Arena_All_call {x0 : Option Addr} {R : Value → World → Prop} {w : World} (h : tenonref02_Arena_All x0 R w) : call Try.prog 28 #[.pointer x0] w R :=
  call_of_fnW plain mixed Try.func28 tenonref02_Arena_All_ann (Eq.mp (by kernel_rfl : tenonref02_Arena_All x0 R w = fnW Try.prog Try.f28 tenonref02_Arena_All_ann #[.pointer x0] R w) h)

def heap_Heap_Value (x0 : Option Addr) (x1 : Int) (R : Value → World → Prop) (w : World) : Prop :=
  call Try.prog 35 #[.pointer x0, .int .u64 x1] w fun v1 w1 =>
  ∃ (p2 : Option Addr) (n3 : Int),
  v1 = .tuple #[.pointer p2, .int .i64 n3] ∧
  br ((n3 : Int) != 0) (
  R (.tuple #[.int .i64 0, .int .i64 n3]) w1) (
  nn p2 fun a4 =>
  ldI .i64 (a4.add 2) w1 fun n5 =>
  R (.tuple #[.int .i64 n5, .int .i64 0]) w1)
@[irreducible] def heap_Heap_Value_ann : Ann := .none
theorem heap_Heap_Value_call {x0 : Option Addr} {x1 : Int} {R : Value → World → Prop} {w : World} (h : heap_Heap_Value x0 x1 R w) : call Try.prog 29 #[.pointer x0, .int .u64 x1] w R :=
  call_of_fnW plain mixed Try.func29 heap_Heap_Value_ann (Eq.mp (by kernel_rfl : heap_Heap_Value x0 x1 R w = fnW Try.prog Try.f29 heap_Heap_Value_ann #[.pointer x0, .int .u64 x1] R w) h)

def heap_Heap_Whole (x0 : Option Addr) (x1 : Int) (R : Value → World → Prop) (w : World) : Prop :=
  call Try.prog 35 #[.pointer x0, .int .u64 x1] w fun v1 w1 =>
  ∃ (p2 : Option Addr) (n3 : Int),
  v1 = .tuple #[.pointer p2, .int .i64 n3] ∧
  br ((n3 : Int) != 0) (
  R (.tuple #[.int .u64 0, .int .i64 n3]) w1) (
  nn p2 fun a4 =>
  ldI .u64 (a4.add 1) w1 fun n5 =>
  br ((n5 : Int) != 0) (
  nn p2 fun a6 =>
  ldI .u64 (a6.add 1) w1 fun n7 =>
  R (.tuple #[.int .u64 n7, .int .i64 0]) w1) (
  R (.tuple #[.int .u64 x1, .int .i64 0]) w1))
@[irreducible] def heap_Heap_Whole_ann : Ann := .none
theorem heap_Heap_Whole_call {x0 : Option Addr} {x1 : Int} {R : Value → World → Prop} {w : World} (h : heap_Heap_Whole x0 x1 R w) : call Try.prog 30 #[.pointer x0, .int .u64 x1] w R :=
  call_of_fnW plain mixed Try.func30 heap_Heap_Whole_ann (Eq.mp (by kernel_rfl : heap_Heap_Whole x0 x1 R w = fnW Try.prog Try.f30 heap_Heap_Whole_ann #[.pointer x0, .int .u64 x1] R w) h)

def heap_Heap_Remove (x0 : Option Addr) (x1 : Option Addr) (y1 z1 : Nat) (R : Value → World → Prop) (w : World) : Prop :=
  newM w fun k1 w1 =>
  ∃ I2 : Int → World → Nat → Prop, (∃ m3, I2 0 w1 m3) ∧
  ∀ (u4 : Nat → Value) (n5 : Int) (w2 : World) (m6 : Nat), I2 n5 w2 m6 →
  br (decide ((n5 : Int) < (y1 : Int))) (
  idx x1 y1 n5 1 fun a7 =>
  ldI .u64 a7 w2 fun n8 =>
  call Try.prog 35 #[.pointer x0, .int .u64 n8] w2 fun v9 w3 =>
  ∃ (p10 : Option Addr) (n11 : Int),
  v9 = .tuple #[.pointer p10, .int .i64 n11] ∧
  br ((n11 : Int) != 0) (
  R (.tuple #[.slice none 0 0, .slice none 0 0, .int .i64 n11]) w3) (
  arith .i64 (n5 + 1) fun n12 =>
  ∃ m13, m13 < m6 ∧ I2 n12 w3 m13)) (
  ∃ I14 : Int → World → Nat → Prop, (∃ m15, I14 0 w2 m15) ∧
  ∀ (u16 : Nat → Value) (n17 : Int) (w4 : World) (m18 : Nat), I14 n17 w4 m18 →
  br (decide ((n17 : Int) < (y1 : Int))) (
  idx x1 y1 n17 1 fun a19 =>
  ldI .u64 a19 w4 fun n20 =>
  lookW Try.prog 127 (some k1) (.int .u64 n20) true w4 fun v21 =>
  ∃ (g22 : Array Value) (b23 : Bool),
  v21 = .tuple #[.agg g22, .bool b23] ∧
  new #[] 128 w4 fun k24 w5 =>
  stA Try.prog (⟨k24, 0, none⟩ : Addr) 0 g22 w5 fun w6 =>
  call Try.prog 35 #[.pointer x0, .int .u64 n20] w6 fun v25 w7 =>
  ∃ (p26 : Option Addr) (n27 : Int),
  v25 = .tuple #[.pointer p26, .int .i64 n27] ∧
  nn p26 fun a28 =>
  ldI .u64 (a28.add 1) w7 fun n29 =>
  br ((n29 : Int) != 0) (
  R (.tuple #[.slice none 0 0, .slice none 0 0, .int .i64 1]) w7) (
  br b23 (
  R (.tuple #[.slice none 0 0, .slice none 0 0, .int .i64 1]) w7) (
  setM Try.prog 127 (some k1) (.int .u64 n20) (.agg #[]) w7 fun w8 =>
  arith .i64 (n17 + 1) fun n30 =>
  ∃ m31, m31 < m18 ∧ I14 n30 w8 m31))) (
  ∃ I32 : Int → World → Nat → Prop, (∃ m33, I32 0 w4 m33) ∧
  ∀ (u34 : Nat → Value) (n35 : Int) (w9 : World) (m36 : Nat), I32 n35 w9 m36 →
  br (decide ((n35 : Int) < (y1 : Int))) (
  idx x1 y1 n35 1 fun a37 =>
  ldI .u64 a37 w9 fun n38 =>
  call Try.prog 35 #[.pointer x0, .int .u64 n38] w9 fun v39 w10 =>
  ∃ (p40 : Option Addr) (n41 : Int),
  v39 = .tuple #[.pointer p40, .int .i64 n41] ∧
  nn p40 fun a42 =>
  st (a42.add 0) (.int .u32 0) w10 fun w11 =>
  arith .i64 (n35 + 1) fun n43 =>
  ∃ m44, m44 < m36 ∧ I32 n43 w11 m44) (
  call Try.prog 54 #[.slice x1 y1 z1] w9 fun v45 w12 =>
  asS v45 fun p46 l46 c46 =>
  new #[.pointer x0, .slice p46 l46 c46, .slice none 0 0, .slice none 0 0] 95 w12 fun k47 w13 =>
  call Try.prog 39 #[.pointer (some (⟨k47, 0, none⟩ : Addr))] w13 fun v48 w14 =>
  ∃ (p49 : Option Addr) (l49 c49 : Nat) (p50 : Option Addr) (l50 c50 : Nat),
  v48 = .tuple #[.slice p49 l49 c49, .slice p50 l50 c50] ∧
  R (.tuple #[.slice p49 l49 c49, .slice p50 l50 c50, .int .i64 0]) w14)))
@[irreducible] def heap_Heap_Remove_ann : Ann := .seq .none (.seq .none (.seq (.seq .none (.one (.loop [(26, .int .i64)] .none))) (.seq (.seq .none (.one (.loop [(42, .int .i64)] .none))) (.seq (.seq .none (.one (.loop [(72, .int .i64)] .none))) .none))))
theorem heap_Heap_Remove_call {x0 : Option Addr} {x1 : Option Addr} {y1 z1 : Nat} {R : Value → World → Prop} {w : World} (h : heap_Heap_Remove x0 x1 y1 z1 R w) : call Try.prog 31 #[.pointer x0, .slice x1 y1 z1] w R :=
  call_of_fnW plain mixed Try.func31 heap_Heap_Remove_ann (Eq.mp (by kernel_rfl : heap_Heap_Remove x0 x1 y1 z1 R w = fnW Try.prog Try.f31 heap_Heap_Remove_ann #[.pointer x0, .slice x1 y1 z1] R w) h)

def heap_Heap_Store (x0 : Option Addr) (x1 : Int) (x2 : Int) (R : Value → World → Prop) (w : World) : Prop :=
  call Try.prog 35 #[.pointer x0, .int .u64 x1] w fun v1 w1 =>
  ∃ (p2 : Option Addr) (n3 : Int),
  v1 = .tuple #[.pointer p2, .int .i64 n3] ∧
  br ((n3 : Int) == 0) (
  nn p2 fun a4 =>
  st (a4.add 2) (.int .i64 x2) w1 fun w2 =>
  R (.int .i64 n3) w2) (
  R (.int .i64 n3) w1)
@[irreducible] def heap_Heap_Store_ann : Ann := .none
theorem heap_Heap_Store_call {x0 : Option Addr} {x1 : Int} {x2 : Int} {R : Value → World → Prop} {w : World} (h : heap_Heap_Store x0 x1 x2 R w) : call Try.prog 32 #[.pointer x0, .int .u64 x1, .int .i64 x2] w R :=
  call_of_fnW plain mixed Try.func32 heap_Heap_Store_ann (Eq.mp (by kernel_rfl : heap_Heap_Store x0 x1 x2 R w = fnW Try.prog Try.f32 heap_Heap_Store_ann #[.pointer x0, .int .u64 x1, .int .i64 x2] R w) h)

def tenonlaw11_links (x0 : Option Addr) (x1 : Int) (x2 : Int) (R : Value → World → Prop) (w : World) : Prop :=
  new #[.int .i64 x2] 3 w fun k1 w1 =>
  new #[.slice none 0 0] 78 w1 fun k2 w2 =>
  call Try.prog 52 #[.pointer x0, .int .u64 x1] w2 fun v3 w3 =>
  asF v3 fun f4 q4 t4 =>
  rangeW Try.prog (.func f4 q4 t4) 2 (fun xs5 N6 J7 T8 w4 => ∃ (n9 : Int) (g10 : Array Value), xs5 = #[.int .i64 n9, .agg g10] ∧
  new #[.int .i64 0, .int .u64 0] 35 w4 fun k11 w5 =>
  stA Try.prog (⟨k11, 0, none⟩ : Addr) 2 g10 w5 fun w6 =>
  T8 w6 fun w7 =>
  ldS (⟨k2, 0, none⟩ : Addr) w7 fun p12 l12 c12 =>
  ldI .i64 (⟨k1, 0, none⟩ : Addr) w7 fun n13 =>
  br (decide ((l12 : Int) ≥ n13)) (
  J7 (.exit 0) w7) (
  ldS (⟨k2, 0, none⟩ : Addr) w7 fun p14 l14 c14 =>
  br ((n9 : Int) != (l14 : Int)) (
  J7 (.exit 0) w7) (
  ldS (⟨k2, 0, none⟩ : Addr) w7 fun p15 l15 c15 =>
  ldA (⟨k11, 0, none⟩ : Addr) 2 w7 fun g16 =>
  (g16 : Array Value).size = 2 ∧
  new g16 35 w7 fun k17 w8 =>
  runsS Try.prog (Builtin.append_ #[78, 78] 78 #[.slice p15 l15 c15, .slice (some (⟨k17, 0, none⟩ : Addr)) 1 1]) w8 fun p18 l18 c18 w9 =>
  st (⟨k2, 0, none⟩ : Addr) (.slice p18 l18 c18) w9 fun w10 =>
  N6 w10))) (fun D19 w11 =>
  ldS (⟨k2, 0, none⟩ : Addr) w11 fun p20 l20 c20 =>
  shutD D19 w11 fun w12 =>
  R (.slice p20 l20 c20) w12) (fun D21 c22 w13 => jmp c22 (
  False) [(0, ldS (⟨k2, 0, none⟩ : Addr) w13 fun p23 l23 c23 =>
  shutD D21 w13 fun w14 =>
  R (.slice p23 l23 c23) w14)]) w3
@[irreducible] def tenonlaw11_links_ann : Ann := .seq .none (.seq .none (.seq (.seq .none (.seq .none (.seq (.seq .none (.one (.range [.int .i64, .agg] .none .none))) .none))) .none))
theorem tenonlaw11_links_call {x0 : Option Addr} {x1 : Int} {x2 : Int} {R : Value → World → Prop} {w : World} (h : tenonlaw11_links x0 x1 x2 R w) : call Try.prog 33 #[.pointer x0, .int .u64 x1, .int .i64 x2] w R :=
  call_of_fnW plain mixed Try.func33 tenonlaw11_links_ann (Eq.mp (by kernel_rfl : tenonlaw11_links x0 x1 x2 R w = fnW Try.prog Try.f33 tenonlaw11_links_ann #[.pointer x0, .int .u64 x1, .int .i64 x2] R w) h)

def arena_New (x0 : Int) (x1 : Int) (R : Value → World → Prop) (w : World) : Prop :=
  br (decide ((x0 : Int) < 1)) (
  R (.tuple #[.pointer none, .int .i64 1]) w) (
  br (decide ((x0 : Int) > 65536)) (
  R (.tuple #[.pointer none, .int .i64 1]) w) (
  br ((x1 : Int) == 0) (
  R (.tuple #[.pointer none, .int .i64 1]) w) (
  new #[.int .i64 x0, .int .u32 x1, .slice none 0 0, .slice none 0 0, .int .i64 0] 133 w fun k1 w1 =>
  R (.tuple #[.pointer (some (⟨k1, 0, none⟩ : Addr)), .int .i64 0]) w1)))
@[irreducible] def arena_New_ann : Ann := .none
theorem arena_New_call {x0 : Int} {x1 : Int} {R : Value → World → Prop} {w : World} (h : arena_New x0 x1 R w) : call Try.prog 34 #[.int .i64 x0, .int .u32 x1] w R :=
  call_of_fnW plain mixed Try.func34 arena_New_ann (Eq.mp (by kernel_rfl : arena_New x0 x1 R w = fnW Try.prog Try.f34 arena_New_ann #[.int .i64 x0, .int .u32 x1] R w) h)

def heap_Heap_find (x0 : Option Addr) (x1 : Int) (R : Value → World → Prop) (w : World) : Prop :=
  br x0.isNone (
  R (.tuple #[.pointer none, .int .i64 2]) w) (
  nn x0 fun a1 =>
  ldP (a1.add 1) w fun p2 =>
  call Try.prog 55 #[.pointer p2, .int .u64 x1] w fun v3 w1 =>
  ∃ (p4 : Option Addr) (n5 : Int),
  v3 = .tuple #[.pointer p4, .int .i64 n5] ∧
  R (.tuple #[.pointer p4, .int .i64 n5]) w1)
@[irreducible] def heap_Heap_find_ann : Ann := .none
theorem heap_Heap_find_call {x0 : Option Addr} {x1 : Int} {R : Value → World → Prop} {w : World} (h : heap_Heap_find x0 x1 R w) : call Try.prog 35 #[.pointer x0, .int .u64 x1] w R :=
  call_of_fnW plain mixed Try.func35 heap_Heap_find_ann (Eq.mp (by kernel_rfl : heap_Heap_find x0 x1 R w = fnW Try.prog Try.f35 heap_Heap_find_ann #[.pointer x0, .int .u64 x1] R w) h)

def arena_Arena_Put (x0 : Option Addr) (x1 : Option Addr) (R : Value → World → Prop) (w : World) : Prop :=
  br x0.isNone (
  R (.tuple #[.int .u64 0, .int .i64 3]) w) (
  nn x0 fun a1 =>
  ldS (a1.add 2) w fun p2 l2 c2 =>
  ∃ J3 : Int → World → Prop, (
  nn x0 fun a4 =>
  ldS (a4.add 3) w fun p5 l5 c5 =>
  br (decide ((l5 : Int) > 0)) (
  nn x0 fun a6 =>
  ldS (a6.add 3) w fun p7 l7 c7 =>
  arith .i64 ((l5 : Int) - 1) fun n8 =>
  idx p7 l7 n8 1 fun a9 =>
  ldI .i64 a9 w fun n10 =>
  nn x0 fun a11 =>
  ldS (a11.add 3) w fun p12 l12 c12 =>
  arith .i64 ((l5 : Int) - 1) fun n13 =>
  slc p12 c12 1 0 n13 fun p14 l14 c14 =>
  nn x0 fun a15 =>
  st (a15.add 3) (.slice p14 l14 c14) w fun w1 =>
  J3 n10 w1) (
  nn x0 fun a16 =>
  ldI .i64 (a16.add 0) w fun n17 =>
  br ((l2 : Int) == n17) (
  R (.tuple #[.int .u64 0, .int .i64 3]) w) (
  nn x0 fun a18 =>
  ldS (a18.add 2) w.drew fun p19 l19 c19 =>
  nn x0 fun a20 =>
  ldI .u32 (a20.add 1) w.drew fun n21 =>
  (#[.pointer none, .int .u32 n21, .bool false] : Array Value).size = 3 ∧
  new #[.pointer none, .int .u32 n21, .bool false] 135 w.drew fun k22 w2 =>
  runsS Try.prog (Builtin.append_ #[131, 131] 131 #[.slice p19 l19 c19, .slice (some (⟨k22, 0, none⟩ : Addr)) 1 1]) w2 fun p23 l23 c23 w3 =>
  nn x0 fun a24 =>
  st (a24.add 2) (.slice p23 l23 c23) w3 fun w4 =>
  J3 ((l2 : Int)) w4))) ∧
  ∀ (u25 : Nat → Value) (n26 : Int) (w5 : World), J3 n26 w5 →
  nn x0 fun a27 =>
  ldS (a27.add 2) w5 fun p28 l28 c28 =>
  idx p28 l28 n26 3 fun a29 =>
  st (a29.add 0) (.pointer x1) w5 fun w6 =>
  st (a29.add 2) (.bool true) w6 fun w7 =>
  nn x0 fun a30 =>
  ldI .i64 (a30.add 4) w7 fun n31 =>
  arith .i64 (n31 + 1) fun n32 =>
  nn x0 fun a33 =>
  st (a33.add 4) (.int .i64 n32) w7 fun w8 =>
  ldI .u32 (a29.add 1) w8 fun n34 =>
  call Try.prog 56 #[.int .i64 n26, .int .u32 n34] w8 fun v35 w9 =>
  asI .u64 v35 fun n36 =>
  R (.tuple #[.int .u64 n36, .int .i64 0]) w9)
@[irreducible] def arena_Arena_Put_ann : Ann := .seq .none (.seq .none (.seq .none (.meet [(6, .int .i64)] (.seq .none (.seq .none (.seq .none (.seq .none (.seq .none (.draw [[], [], [1], [1, 2], [1, 2, 3], [], [5], [5, 6], [5, 6, 7], [5, 6, 7, 8], [5, 6, 7, 8, 9], [1, 2, 3, 4, 5, 6, 7, 8, 9, 10], [0, 1, 2, 3, 4, 5, 6, 7, 8, 9, 10, 11], [0, 1, 2, 3, 4, 5, 6, 7, 8, 9, 10, 11, 12], [0, 1, 2, 3, 4, 5, 6, 7, 8, 9, 10, 11, 12, 13]] (ol [0, 1, 2, 3, 4, 5, 6, 7, 8, 9, 10, 11, 12, 13, 14] .nil))))))) .none)))
theorem arena_Arena_Put_call {x0 : Option Addr} {x1 : Option Addr} {R : Value → World → Prop} {w : World} (h : arena_Arena_Put x0 x1 R w) : call Try.prog 36 #[.pointer x0, .pointer x1] w R :=
  call_of_fnW plain mixed Try.func36 arena_Arena_Put_ann (Eq.mp (by kernel_rfl : arena_Arena_Put x0 x1 R w = fnW Try.prog Try.f36 arena_Arena_Put_ann #[.pointer x0, .pointer x1] R w) h)

def heap_right (x0 : Array Value) (R : Value → World → Prop) (w : World) : Prop :=
  new x0 35 w fun k1 w1 =>
  ldI .i64 ((⟨k1, 0, none⟩ : Addr).add 0) w1 fun n2 =>
  br ((n2 : Int) == 0) (
  ldI .u64 ((⟨k1, 0, none⟩ : Addr).add 1) w1 fun n3 =>
  br ((n3 : Int) == 0) (
  R (.bool true) w1) (
  ldI .i64 ((⟨k1, 0, none⟩ : Addr).add 0) w1 fun n4 =>
  br ((n4 : Int) == 1) (
  R (.bool true) w1) (
  ldI .i64 ((⟨k1, 0, none⟩ : Addr).add 0) w1 fun n5 =>
  R (.bool ((n5 : Int) == 2)) w1))) (
  ldI .i64 ((⟨k1, 0, none⟩ : Addr).add 0) w1 fun n6 =>
  br ((n6 : Int) == 1) (
  R (.bool true) w1) (
  ldI .i64 ((⟨k1, 0, none⟩ : Addr).add 0) w1 fun n7 =>
  R (.bool ((n7 : Int) == 2)) w1))
@[irreducible] def heap_right_ann : Ann := .none
theorem heap_right_call {x0 : Array Value} {R : Value → World → Prop} {w : World} (h : heap_right x0 R w) : call Try.prog 37 #[.agg x0] w R :=
  call_of_fnW plain mixed Try.func37 heap_right_ann (Eq.mp (by kernel_rfl : heap_right x0 R w = fnW Try.prog Try.f37 heap_right_ann #[.agg x0] R w) h)

def heap_fall_let (x0 : Option Addr) (x1 : Array Value) (R : Value → World → Prop) (w : World) : Prop :=
  new x1 35 w fun k1 w1 =>
  ldI .i64 ((⟨k1, 0, none⟩ : Addr).add 0) w1 fun n2 =>
  br ((n2 : Int) == 1) (
  nn x0 fun a3 =>
  ldP (a3.add 0) w1.drew fun p4 =>
  ldI .u64 ((⟨k1, 0, none⟩ : Addr).add 1) w1.drew fun n5 =>
  call Try.prog 30 #[.pointer p4, .int .u64 n5] w1.drew fun v6 w2 =>
  ∃ (n7 : Int) (n8 : Int),
  v6 = .tuple #[.int .u64 n7, .int .i64 n8] ∧
  br ((n8 : Int) != 0) (
  R (.tuple #[]) w2) (
  nn x0 fun a9 =>
  ldP (a9.add 0) w2 fun p10 =>
  call Try.prog 35 #[.pointer p10, .int .u64 n7] w2 fun v11 w3 =>
  ∃ (p12 : Option Addr) (n13 : Int),
  v11 = .tuple #[.pointer p12, .int .i64 n13] ∧
  nn p12 fun a14 =>
  ldI .u32 (a14.add 0) w3 fun n15 =>
  br (decide ((n15 : Int) > 0)) (
  nn p12 fun a16 =>
  ldI .u32 (a16.add 0) w3 fun n17 =>
  arith .u32 (n17 - 1) fun n18 =>
  nn p12 fun a19 =>
  st (a19.add 0) (.int .u32 n18) w3 fun w4 =>
  nn p12 fun a20 =>
  ldI .u32 (a20.add 0) w4 fun n21 =>
  br ((n21 : Int) == 0) (
  nn x0 fun a22 =>
  ldS (a22.add 1) w4 fun p23 l23 c23 =>
  new #[.int .u64 n7] 29 w4 fun k24 w5 =>
  runsS Try.prog (Builtin.append_ #[28, 28] 28 #[.slice p23 l23 c23, .slice (some (⟨k24, 0, none⟩ : Addr)) 1 1]) w5 fun p25 l25 c25 w6 =>
  nn x0 fun a26 =>
  st (a26.add 1) (.slice p25 l25 c25) w6 fun w7 =>
  R (.tuple #[]) w7) (
  R (.tuple #[]) w4)) (
  R (.tuple #[]) w3))) (
  br ((n2 : Int) == 2) (
  nn x0 fun a27 =>
  ldS (a27.add 3) w1.drew fun p28 l28 c28 =>
  ldI .u64 ((⟨k1, 0, none⟩ : Addr).add 1) w1.drew fun n29 =>
  new #[.int .u64 n29] 29 w1.drew fun k30 w8 =>
  runsS Try.prog (Builtin.append_ #[28, 28] 28 #[.slice p28 l28 c28, .slice (some (⟨k30, 0, none⟩ : Addr)) 1 1]) w8 fun p31 l31 c31 w9 =>
  nn x0 fun a32 =>
  st (a32.add 3) (.slice p31 l31 c31) w9 fun w10 =>
  R (.tuple #[]) w10) (
  R (.tuple #[]) w1))
@[irreducible] def heap_fall_let_ann : Ann := .seq .none (.seq .none (.one (.seq .none (.seq (.seq (.draw [[], [0], [0, 1], [0, 1, 2], [], [4], [0, 1, 2, 3, 4, 5], [0, 1, 2, 3, 4, 5, 6], [0, 1, 2, 3, 4, 5, 6, 7], [0, 1, 2, 3, 4, 5, 6, 7], [0, 1, 2, 3, 4, 5, 6, 7, 8], [0, 1, 2, 3, 4, 5, 6, 7, 8, 9, 10]] (ol [0, 1, 2, 3, 4, 5, 6, 7, 8, 9, 10, 11] .nil)) .none) (.seq .none (.seq (.draw [[], [], [1], [1, 2], [1, 2, 3], [], [5], [5, 6], [1, 2, 3, 4, 5, 6, 7], [0, 1, 2, 3, 4, 5, 6, 7, 8], [0, 1, 2, 3, 4, 5, 6, 7, 8, 9], [0, 1, 2, 3, 4, 5, 6, 7, 8, 9, 10]] (ol [0, 1, 2, 3, 4, 5, 6, 7, 8, 9, 10, 11] .nil)) .none))))))
theorem heap_fall_let_call {x0 : Option Addr} {x1 : Array Value} {R : Value → World → Prop} {w : World} (h : heap_fall_let x0 x1 R w) : call Try.prog 38 #[.pointer x0, .agg x1] w R :=
  call_of_fnW plain mixed Try.func38 heap_fall_let_ann (Eq.mp (by kernel_rfl : heap_fall_let x0 x1 R w = fnW Try.prog Try.f38 heap_fall_let_ann #[.pointer x0, .agg x1] R w) h)

def heap_fall_run (x0 : Option Addr) (R : Value → World → Prop) (w : World) : Prop :=
  ∃ I1 : World → Nat → Prop, (∃ m2, I1  w m2) ∧
  ∀ (u3 : Nat → Value)  (w1 : World) (m4 : Nat), I1  w1 m4 →
  nn x0 fun a5 =>
  ldS (a5.add 1) w1 fun p6 l6 c6 =>
  br (decide ((l6 : Int) > 0)) (
  nn x0 fun a7 =>
  ldS (a7.add 1) w1 fun p8 l8 c8 =>
  idx p8 l8 0 1 fun a9 =>
  ldI .u64 a9 w1 fun n10 =>
  nn x0 fun a11 =>
  ldS (a11.add 1) w1 fun p12 l12 c12 =>
  slc p12 c12 1 1 ((l12 : Int)) fun p13 l13 c13 =>
  nn x0 fun a14 =>
  st (a14.add 1) (.slice p13 l13 c13) w1 fun w2 =>
  nn x0 fun a15 =>
  ldP (a15.add 0) w2 fun p16 =>
  nn p16 fun a17 =>
  ldP (a17.add 1) w2 fun p18 =>
  call Try.prog 57 #[.pointer p18, .int .u64 n10] w2 fun v19 w3 =>
  ∃ (p20 : Option Addr) (n21 : Int),
  v19 = .tuple #[.pointer p20, .int .i64 n21] ∧
  nn x0 fun a22 =>
  ldS (a22.add 2) w3 fun p23 l23 c23 =>
  new #[.int .u64 n10] 29 w3 fun k24 w4 =>
  runsS Try.prog (Builtin.append_ #[28, 28] 28 #[.slice p23 l23 c23, .slice (some (⟨k24, 0, none⟩ : Addr)) 1 1]) w4 fun p25 l25 c25 w5 =>
  nn x0 fun a26 =>
  st (a26.add 2) (.slice p25 l25 c25) w5 fun w6 =>
  new #[.pointer p20] 84 w6 fun k27 w7 =>
  nn p20 fun a28 =>
  ldS (a28.add 4) w7 fun p29 l29 c29 =>
  ∃ I30 : Option Addr → Nat → Nat → Int → World → Nat → Prop, (∃ m31, I30 (some (⟨k27, 0, none⟩ : Addr)) 1 1 0 w7 m31) ∧
  ∀ (u32 : Nat → Value) (p33 : Option Addr) (l33 c33 : Nat) (n34 : Int) (w8 : World) (m35 : Nat), I30 p33 l33 c33 n34 w8 m35 →
  br (decide ((n34 : Int) < (l29 : Int))) (
  idx p29 l29 n34 1 fun a36 =>
  ldI .u64 a36 w8 fun n37 =>
  nn x0 fun a38 =>
  ldP (a38.add 0) w8 fun p39 =>
  nn p39 fun a40 =>
  ldP (a40.add 1) w8 fun p41 =>
  call Try.prog 57 #[.pointer p41, .int .u64 n37] w8 fun v42 w9 =>
  ∃ (p43 : Option Addr) (n44 : Int),
  v42 = .tuple #[.pointer p43, .int .i64 n44] ∧
  nn x0 fun a45 =>
  ldS (a45.add 2) w9 fun p46 l46 c46 =>
  new #[.int .u64 n37] 29 w9 fun k47 w10 =>
  runsS Try.prog (Builtin.append_ #[28, 28] 28 #[.slice p46 l46 c46, .slice (some (⟨k47, 0, none⟩ : Addr)) 1 1]) w10 fun p48 l48 c48 w11 =>
  nn x0 fun a49 =>
  st (a49.add 2) (.slice p48 l48 c48) w11 fun w12 =>
  new #[.pointer p43] 84 w12 fun k50 w13 =>
  runsS Try.prog (Builtin.append_ #[137, 137] 137 #[.slice p33 l33 c33, .slice (some (⟨k50, 0, none⟩ : Addr)) 1 1]) w13 fun p51 l51 c51 w14 =>
  arith .i64 (n34 + 1) fun n52 =>
  ∃ m53, m53 < m35 ∧ I30 p51 l51 c51 n52 w14 m53) (
  ∃ I54 : Int → World → Nat → Prop, (∃ m55, I54 0 w8 m55) ∧
  ∀ (u56 : Nat → Value) (n57 : Int) (w15 : World) (m58 : Nat), I54 n57 w15 m58 →
  br (decide ((n57 : Int) < (l33 : Int))) (
  idx p33 l33 n57 1 fun a59 =>
  ldP a59 w15 fun p60 =>
  nn p60 fun a61 =>
  ldS (a61.add 3) w15 fun p62 l62 c62 =>
  ∃ I63 : Int → World → Nat → Prop, (∃ m64, I63 0 w15 m64) ∧
  ∀ (u65 : Nat → Value) (n66 : Int) (w16 : World) (m67 : Nat), I63 n66 w16 m67 →
  br (decide ((n66 : Int) < (l62 : Int))) (
  idx p62 l62 n66 2 fun a68 =>
  ldA a68 2 w16 fun g69 =>
  new #[.int .i64 0, .int .u64 0] 35 w16 fun k70 w17 =>
  stA Try.prog (⟨k70, 0, none⟩ : Addr) 2 g69 w17 fun w18 =>
  ldA (⟨k70, 0, none⟩ : Addr) 2 w18 fun g71 =>
  call Try.prog 38 #[.pointer x0, .agg g71] w18 fun v72 w19 =>
  v72 = .tuple #[] ∧
  arith .i64 (n66 + 1) fun n73 =>
  ∃ m74, m74 < m67 ∧ I63 n73 w19 m74) (
  arith .i64 (n57 + 1) fun n75 =>
  ∃ m76, m76 < m58 ∧ I54 n75 w16 m76)) (
  ∃ m77, m77 < m4 ∧ I1  w15 m77))) (
  nn x0 fun a78 =>
  ldS (a78.add 2) w1.drew fun p79 l79 c79 =>
  nn x0 fun a80 =>
  ldS (a80.add 3) w1.drew fun p81 l81 c81 =>
  R (.tuple #[.slice p79 l79 c79, .slice p81 l81 c81]) w1.drew)
@[irreducible] def heap_fall_run_ann : Ann := .seq .none (.seq (.one (.loop [] (.seq .none (.one (.seq .none (.seq .none (.seq .none (.seq .none (.seq .none (.seq (.seq .none (.one (.loop [(7, .slice), (65, .int .i64)] .none))) (.seq .none (.one (.loop [(98, .int .i64)] (.seq .none (.seq .none (.seq (.one (.seq .none (.seq .none (.one (.loop [(107, .int .i64)] .none))))) .none)))))))))))))))) (.seq (.draw [[], [0], [0, 1], [0, 1, 2], [], [4], [4, 5], [4, 5, 6], [0, 1, 2, 3], [0, 1, 2, 3, 4, 5, 6, 7, 8]] (ol [0, 1, 2, 3, 4, 5, 6, 7, 8, 9] .nil)) .none))
theorem heap_fall_run_call {x0 : Option Addr} {R : Value → World → Prop} {w : World} (h : heap_fall_run x0 R w) : call Try.prog 39 #[.pointer x0] w R :=
  call_of_fnW plain mixed Try.func39 heap_fall_run_ann (Eq.mp (by kernel_rfl : heap_fall_run x0 R w = fnW Try.prog Try.f39 heap_fall_run_ann #[.pointer x0] R w) h)

def heap_Heap_whole (x0 : Option Addr) (x1 : Int) (R : Value → World → Prop) (w : World) : Prop :=
  call Try.prog 30 #[.pointer x0, .int .u64 x1] w fun v1 w1 =>
  ∃ (n2 : Int) (n3 : Int),
  v1 = .tuple #[.int .u64 n2, .int .i64 n3] ∧
  br ((n3 : Int) != 0) (
  R (.tuple #[.pointer none, .int .i64 n3]) w1) (
  call Try.prog 35 #[.pointer x0, .int .u64 n2] w1 fun v4 w2 =>
  ∃ (p5 : Option Addr) (n6 : Int),
  v4 = .tuple #[.pointer p5, .int .i64 n6] ∧
  R (.tuple #[.pointer p5, .int .i64 n6]) w2)
@[irreducible] def heap_Heap_whole_ann : Ann := .none
theorem heap_Heap_whole_call {x0 : Option Addr} {x1 : Int} {R : Value → World → Prop} {w : World} (h : heap_Heap_whole x0 x1 R w) : call Try.prog 40 #[.pointer x0, .int .u64 x1] w R :=
  call_of_fnW plain mixed Try.func40 heap_Heap_whole_ann (Eq.mp (by kernel_rfl : heap_Heap_whole x0 x1 R w = fnW Try.prog Try.f40 heap_Heap_whole_ann #[.pointer x0, .int .u64 x1] R w) h)

def heap_Heap_All (x0 : Option Addr) (R : Value → World → Prop) (w : World) : Prop :=
  new #[.pointer x0] 23 w fun k1 w1 =>
  R (.func (.func 58) #[] #[.pointer (some (⟨k1, 0, none⟩ : Addr))]) w1
@[irreducible] def heap_Heap_All_ann : Ann := .none
theorem heap_Heap_All_call {x0 : Option Addr} {R : Value → World → Prop} {w : World} (h : heap_Heap_All x0 R w) : call Try.prog 41 #[.pointer x0] w R :=
  call_of_fnW plain mixed Try.func41 heap_Heap_All_ann (Eq.mp (by kernel_rfl : heap_Heap_All x0 R w = fnW Try.prog Try.f41 heap_Heap_All_ann #[.pointer x0] R w) h)

def tenonref02_New (x0 : Int) (x1 : Int) (R : Value → World → Prop) (w : World) : Prop :=
  br (decide ((x0 : Int) < 1)) (
  R (.pointer none) w) (
  br (decide ((x0 : Int) > 65536)) (
  R (.pointer none) w) (
  br ((x1 : Int) == 0) (
  R (.pointer none) w) (
  new #[.int .i64 x0, .int .u32 x1, .slice none 0 0, .slice none 0 0] 123 w fun k1 w1 =>
  R (.pointer (some (⟨k1, 0, none⟩ : Addr))) w1)))
@[irreducible] def tenonref02_New_ann : Ann := .none
theorem tenonref02_New_call {x0 : Int} {x1 : Int} {R : Value → World → Prop} {w : World} (h : tenonref02_New x0 x1 R w) : call Try.prog 42 #[.int .i64 x0, .int .u32 x1] w R :=
  call_of_fnW plain mixed Try.func42 tenonref02_New_ann (Eq.mp (by kernel_rfl : tenonref02_New x0 x1 R w = fnW Try.prog Try.f42 tenonref02_New_ann #[.int .i64 x0, .int .u32 x1] R w) h)

def tenonlaw11_Pair_given (x0 : Option Addr) (x1 : Int) (R : Value → World → Prop) (w : World) : Prop :=
  nn x0 fun a1 =>
  ldS (a1.add 2) w fun p2 l2 c2 =>
  br ((l2 : Int) == 0) (
  R (.int .u64 0) w) (
  nn x0 fun a3 =>
  ldS (a3.add 2) w.drew fun p4 l4 c4 =>
  nn x0 fun a5 =>
  ldS (a5.add 2) w.drew fun p6 l6 c6 =>
  call Try.prog 10 #[.int .i64 x1, .int .i64 ((l6 : Int))] w.drew fun v7 w1 =>
  asI .i64 v7 fun n8 =>
  w1.cell? (a3.add 2) = some (.slice p4 l4 c4) ∧
  idx p4 l4 n8 1 fun a9 =>
  ldI .u64 a9 w1 fun n10 =>
  R (.int .u64 n10) w1)
@[irreducible] def tenonlaw11_Pair_given_ann : Ann := .seq .none (.seq .none (.seq (.draw [[], [0], [0, 1], [0, 1, 2], [], [], [5], [5, 6], [5, 6, 7], [5, 6, 7, 8], [4, 5, 6, 7, 8, 9], [0, 1, 2, 3, 4, 5, 6, 7, 8, 9, 10], [0, 1, 2, 3, 4, 5, 6, 7, 8, 9, 10, 11], [0, 1, 2, 3, 4, 5, 6, 7, 8, 9, 10, 11, 12]] (ol [0, 1, 2, 3, 4, 5, 6, 7, 8, 9, 10, 11, 12, 13] .nil)) .none))
theorem tenonlaw11_Pair_given_call {x0 : Option Addr} {x1 : Int} {R : Value → World → Prop} {w : World} (h : tenonlaw11_Pair_given x0 x1 R w) : call Try.prog 43 #[.pointer x0, .int .i64 x1] w R :=
  call_of_fnW plain mixed Try.func43 tenonlaw11_Pair_given_ann (Eq.mp (by kernel_rfl : tenonlaw11_Pair_given x0 x1 R w = fnW Try.prog Try.f43 tenonlaw11_Pair_given_ann #[.pointer x0, .int .i64 x1] R w) h)

end Go.Proofs.Ytgchemgnmijpdaa
