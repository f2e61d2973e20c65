/- The shallow forms of the functions of the translation, printed by a program of this repository, each proved sound. No conditions. -/
import Derived.Test.YtgkdlglpkfoeeaaChecked
import Derived.Test.YtgkdlglpkfoeeaaSp5
import Derived.Eval
set_option linter.unusedVariables false
namespace Go.Proofs.Ytgkdlglpkfoeeaa
open Go.Sp
theorem plain : Plain Try.prog := by
  have h : (Try.prog.funcs.toList.all fun fn => !(fn.name == "runtime.NumGoroutine")) = true := by kernel_rfl
  intro f fn hf
  have := List.all_eq_true.1 h fn (by simpa using Array.mem_of_getElem? hf)
  simpa using this
theorem mixed : Try.prog.follows .mixedOrders = true := Checked.mixed Try.checked
abbrev T_api_Guid : Nat := 25
abbrev T_api_Objref : Nat := 27
abbrev T_api_Errno : Nat := 29
abbrev T_wire_Writer : Nat := 67
abbrev T_wire_Reader : Nat := 70
abbrev T_int64 : Nat := 2
abbrev T_int : Nat := 3
abbrev T_bool : Nat := 4
abbrev T_uint8 : Nat := 5
abbrev T_string : Nat := 9
abbrev T_uintptr : Nat := 12
abbrev T_int32 : Nat := 21
abbrev T_uint32 : Nat := 22
abbrev T_uint64 : Nat := 23
abbrev T_sl_uint8 : Nat := 28
abbrev T_sl_int : Nat := 72
abbrev T_ptr_uint8 : Nat := 85
abbrev fn_tenonlaw07_ObjrefEncodes : Nat := 3
abbrev fn_tenonlaw07_ObjrefDecodes : Nat := 4
abbrev fn_tenonlaw07_ObjrefBack : Nat := 5
abbrev fn_tenonlaw07_ObjrefOrder : Nat := 6
abbrev fn_objref_Encode : Nat := 7
abbrev fn_tenonref07_Right : Nat := 8
abbrev fn_objref_Check : Nat := 9
abbrev fn_tenonlaw07_awake : Nat := 10
abbrev fn_tenonref01_SameBytes : Nat := 11
abbrev fn_tenonref07_Encode : Nat := 12
abbrev fn_tenonref01_Lent : Nat := 13
abbrev fn_objref_Decode : Nat := 14
abbrev fn_tenonref07_Decode : Nat := 15
abbrev fn_tenonref01_Kept : Nat := 16
abbrev fn_tenonref01_Pick : Nat := 17
abbrev fn_objref_Less : Nat := 18
abbrev fn_tenonref07_Less : Nat := 19
abbrev fn_wire_NewWriter : Nat := 20
abbrev fn_wire_Writer_Num : Nat := 21
abbrev fn_wire_Writer_Bytes : Nat := 22
abbrev fn_tenonref05_Num : Nat := 23
abbrev fn_wire_NewReader : Nat := 24
abbrev fn_wire_Reader_Num : Nat := 25
abbrev fn_objref_name : Nat := 26
abbrev fn_wire_Reader_End : Nat := 27
abbrev fn_tenonref07_num : Nat := 28
abbrev fn_cmp_Or : Nat := 29
abbrev fn_cmp_Compare : Nat := 30
abbrev fn_guid_Compare : Nat := 31
abbrev fn_cmp_Compare_1 : Nat := 32
abbrev fn_tenonref01_Compare : Nat := 33
abbrev fn_wire_fits : Nat := 34
abbrev fn_wire_gap : Nat := 35
abbrev fn_bytes_Clone : Nat := 36
abbrev fn_wire_Reader_Left : Nat := 37
abbrev fn_cmp_isNaN : Nat := 38
abbrev fn_bytes_Compare : Nat := 39
abbrev fn_cmp_isNaN_1 : Nat := 40

def tenonlaw07_ObjrefEncodes (x0 : Array Value) (R : Value → World → Prop) (w : World) : Prop :=
  new x0 27 w fun k1 w1 =>
  ldA (⟨k1, 0, none⟩ : Addr) 36 w1 fun g2 =>
  call Try.prog 7 #[.agg g2] w1 fun v3 w2 =>
  ∃ (p4 : Option Addr) (l4 c4 : Nat) (n5 : Int),
  v3 = .tuple #[.slice p4 l4 c4, .int .i64 n5] ∧
  ldA (⟨k1, 0, none⟩ : Addr) 36 w2 fun g6 =>
  call Try.prog 8 #[.agg g6] w2 fun v7 w3 =>
  asB v7 fun b8 =>
  br (!b8) (
  br ((n5 : Int) == 5) (
  ldA (⟨k1, 0, none⟩ : Addr) 36 w3 fun g9 =>
  call Try.prog 9 #[.agg g9] w3 fun v10 w4 =>
  asI .i64 v10 fun n11 =>
  br ((n11 : Int) == 5) (
  br ((l4 : Int) == 0) (
  call Try.prog 10 #[] w4 fun v12 w5 =>
  asB v12 fun b13 =>
  R (.bool b13) w5) (
  R (.bool false) w4)) (
  R (.bool false) w4)) (
  R (.bool false) w3)) (
  br ((n5 : Int) == 0) (
  ldA (⟨k1, 0, none⟩ : Addr) 36 w3 fun g14 =>
  call Try.prog 9 #[.agg g14] w3 fun v15 w6 =>
  asI .i64 v15 fun n16 =>
  br ((n16 : Int) == 0) (
  ldA (⟨k1, 0, none⟩ : Addr) 36 w6 fun g17 =>
  call Try.prog 12 #[.slice none 0 0, .agg g17] w6 fun v18 w7 =>
  asS v18 fun p19 l19 c19 =>
  call Try.prog 11 #[.slice p4 l4 c4, .slice p19 l19 c19] w7 fun v20 w8 =>
  asB v20 fun b21 =>
  br b21 (
  call Try.prog 10 #[] w8 fun v22 w9 =>
  asB v22 fun b23 =>
  R (.bool b23) w9) (
  R (.bool false) w8)) (
  R (.bool false) w6)) (
  R (.bool false) w3))
@[irreducible] def tenonlaw07_ObjrefEncodes_ann : Ann := .none
theorem tenonlaw07_ObjrefEncodes_call {x0 : Array Value} {R : Value → World → Prop} {w : World} (h : tenonlaw07_ObjrefEncodes x0 R w) : call Try.prog 3 #[.agg x0] w R :=
  call_of_fnW plain mixed Try.func3 tenonlaw07_ObjrefEncodes_ann (Eq.mp (by kernel_rfl : tenonlaw07_ObjrefEncodes x0 R w = fnW Try.prog Try.f3 tenonlaw07_ObjrefEncodes_ann #[.agg x0] R w) h)

def tenonlaw07_ObjrefDecodes (x0 : Option Addr) (y0 z0 : Nat) (R : Value → World → Prop) (w : World) : Prop :=
  call Try.prog 13 #[.slice x0 y0 z0] w fun v1 w1 =>
  asS v1 fun p2 l2 c2 =>
  call Try.prog 14 #[.slice p2 l2 c2] w1 fun v3 w2 =>
  ∃ (g4 : Array Value) (n5 : Int),
  v3 = .tuple #[.agg g4, .int .i64 n5] ∧
  new #[.int .u32 0, .int .u32 0, .int .u64 0, .int .u64 0, .int .u8 0, .int .u8 0, .int .u8 0, .int .u8 0, .int .u8 0, .int .u8 0, .int .u8 0, .int .u8 0, .int .u8 0, .int .u8 0, .int .u8 0, .int .u8 0, .int .u8 0, .int .u8 0, .int .u8 0, .int .u8 0, .int .u8 0, .int .u8 0, .int .u8 0, .int .u8 0, .int .u8 0, .int .u8 0, .int .u8 0, .int .u8 0, .int .u8 0, .int .u8 0, .int .u8 0, .int .u8 0, .int .u8 0, .int .u8 0, .int .u8 0, .int .u8 0] 27 w2 fun k6 w3 =>
  stA Try.prog (⟨k6, 0, none⟩ : Addr) 36 g4 w3 fun w4 =>
  call Try.prog 15 #[.slice x0 y0 z0] w4 fun v7 w5 =>
  ∃ (g8 : Array Value) (n9 : Int),
  v7 = .tuple #[.agg g8, .int .i64 n9] ∧
  new #[.int .u32 0, .int .u32 0, .int .u64 0, .int .u64 0, .int .u8 0, .int .u8 0, .int .u8 0, .int .u8 0, .int .u8 0, .int .u8 0, .int .u8 0, .int .u8 0, .int .u8 0, .int .u8 0, .int .u8 0, .int .u8 0, .int .u8 0, .int .u8 0, .int .u8 0, .int .u8 0, .int .u8 0, .int .u8 0, .int .u8 0, .int .u8 0, .int .u8 0, .int .u8 0, .int .u8 0, .int .u8 0, .int .u8 0, .int .u8 0, .int .u8 0, .int .u8 0, .int .u8 0, .int .u8 0, .int .u8 0, .int .u8 0] 27 w5 fun k10 w6 =>
  stA Try.prog (⟨k10, 0, none⟩ : Addr) 36 g8 w6 fun w7 =>
  ldA (⟨k6, 0, none⟩ : Addr) 36 w7 fun g11 =>
  ldA (⟨k10, 0, none⟩ : Addr) 36 w7 fun g12 =>
  still Try.prog (Op.equal 27 (.agg g11) (.agg g12)) fun b13 =>
  br b13 (
  br ((n5 : Int) == n9) (
  call Try.prog 16 #[.slice p2 l2 c2, .slice x0 y0 z0] w7 fun v14 w8 =>
  asB v14 fun b15 =>
  br b15 (
  call Try.prog 10 #[] w8 fun v16 w9 =>
  asB v16 fun b17 =>
  R (.bool b17) w9) (
  R (.bool false) w8)) (
  R (.bool false) w7)) (
  R (.bool false) w7)
@[irreducible] def tenonlaw07_ObjrefDecodes_ann : Ann := .none
theorem tenonlaw07_ObjrefDecodes_call {x0 : Option Addr} {y0 z0 : Nat} {R : Value → World → Prop} {w : World} (h : tenonlaw07_ObjrefDecodes x0 y0 z0 R w) : call Try.prog 4 #[.slice x0 y0 z0] w R :=
  call_of_fnW plain mixed Try.func4 tenonlaw07_ObjrefDecodes_ann (Eq.mp (by kernel_rfl : tenonlaw07_ObjrefDecodes x0 y0 z0 R w = fnW Try.prog Try.f4 tenonlaw07_ObjrefDecodes_ann #[.slice x0 y0 z0] R w) h)

def tenonlaw07_ObjrefBack (x0 : Array Value) (x1 : Int) (x2 : Int) (R : Value → World → Prop) (w : World) : Prop :=
  new x0 27 w fun k1 w1 =>
  ldA (⟨k1, 0, none⟩ : Addr) 36 w1 fun g2 =>
  call Try.prog 7 #[.agg g2] w1 fun v3 w2 =>
  ∃ (p4 : Option Addr) (l4 c4 : Nat) (n5 : Int),
  v3 = .tuple #[.slice p4 l4 c4, .int .i64 n5] ∧
  br ((n5 : Int) != 0) (
  ldA (⟨k1, 0, none⟩ : Addr) 36 w2 fun g6 =>
  call Try.prog 9 #[.agg g6] w2 fun v7 w3 =>
  asI .i64 v7 fun n8 =>
  br ((n8 : Int) == n5) (
  call Try.prog 10 #[] w3 fun v9 w4 =>
  asB v9 fun b10 =>
  R (.bool b10) w4) (
  R (.bool false) w3)) (
  call Try.prog 14 #[.slice p4 l4 c4] w2 fun v11 w5 =>
  ∃ (g12 : Array Value) (n13 : Int),
  v11 = .tuple #[.agg g12, .int .i64 n13] ∧
  new #[.int .u32 0, .int .u32 0, .int .u64 0, .int .u64 0, .int .u8 0, .int .u8 0, .int .u8 0, .int .u8 0, .int .u8 0, .int .u8 0, .int .u8 0, .int .u8 0, .int .u8 0, .int .u8 0, .int .u8 0, .int .u8 0, .int .u8 0, .int .u8 0, .int .u8 0, .int .u8 0, .int .u8 0, .int .u8 0, .int .u8 0, .int .u8 0, .int .u8 0, .int .u8 0, .int .u8 0, .int .u8 0, .int .u8 0, .int .u8 0, .int .u8 0, .int .u8 0, .int .u8 0, .int .u8 0, .int .u8 0, .int .u8 0] 27 w5 fun k14 w6 =>
  stA Try.prog (⟨k14, 0, none⟩ : Addr) 36 g12 w6 fun w7 =>
  br ((n13 : Int) != 0) (
  R (.bool false) w7) (
  ldA (⟨k14, 0, none⟩ : Addr) 36 w7 fun g15 =>
  ldA (⟨k1, 0, none⟩ : Addr) 36 w7 fun g16 =>
  still Try.prog (Op.equal 27 (.agg g15) (.agg g16)) fun b17 =>
  br (!b17) (
  R (.bool false) w7) (
  br ((l4 : Int) != 64) (
  R (.bool false) w7) (
  call Try.prog 17 #[.int .i64 x1, .int .i64 64] w7 fun v18 w8 =>
  asI .i64 v18 fun n19 =>
  idx p4 l4 n19 1 fun a20 =>
  ldI .u8 a20 w8 fun n21 =>
  idx p4 l4 n19 1 fun a22 =>
  st a22 (.int .u8 (bitw .xor .u8 n21 x2)) w8 fun w9 =>
  call Try.prog 14 #[.slice p4 l4 c4] w9 fun v23 w10 =>
  ∃ (g24 : Array Value) (n25 : Int),
  v23 = .tuple #[.agg g24, .int .i64 n25] ∧
  new #[.int .u32 0, .int .u32 0, .int .u64 0, .int .u64 0, .int .u8 0, .int .u8 0, .int .u8 0, .int .u8 0, .int .u8 0, .int .u8 0, .int .u8 0, .int .u8 0, .int .u8 0, .int .u8 0, .int .u8 0, .int .u8 0, .int .u8 0, .int .u8 0, .int .u8 0, .int .u8 0, .int .u8 0, .int .u8 0, .int .u8 0, .int .u8 0, .int .u8 0, .int .u8 0, .int .u8 0, .int .u8 0, .int .u8 0, .int .u8 0, .int .u8 0, .int .u8 0, .int .u8 0, .int .u8 0, .int .u8 0, .int .u8 0] 27 w10 fun k26 w11 =>
  stA Try.prog (⟨k26, 0, none⟩ : Addr) 36 g24 w11 fun w12 =>
  br ((x2 : Int) == 0) (
  ldA (⟨k26, 0, none⟩ : Addr) 36 w12 fun g27 =>
  ldA (⟨k1, 0, none⟩ : Addr) 36 w12 fun g28 =>
  still Try.prog (Op.equal 27 (.agg g27) (.agg g28)) fun b29 =>
  br b29 (
  call Try.prog 10 #[] w12 fun v30 w13 =>
  asB v30 fun b31 =>
  R (.bool b31) w13) (
  R (.bool false) w12)) (
  br ((n25 : Int) == 5) (
  ldA (⟨k26, 0, none⟩ : Addr) 36 w12 fun g32 =>
  still Try.prog (Op.equal 27 (.agg g32) (.agg #[.int .u32 0, .int .u32 0, .int .u64 0, .int .u64 0, .int .u8 0, .int .u8 0, .int .u8 0, .int .u8 0, .int .u8 0, .int .u8 0, .int .u8 0, .int .u8 0, .int .u8 0, .int .u8 0, .int .u8 0, .int .u8 0, .int .u8 0, .int .u8 0, .int .u8 0, .int .u8 0, .int .u8 0, .int .u8 0, .int .u8 0, .int .u8 0, .int .u8 0, .int .u8 0, .int .u8 0, .int .u8 0, .int .u8 0, .int .u8 0, .int .u8 0, .int .u8 0, .int .u8 0, .int .u8 0, .int .u8 0, .int .u8 0])) fun b33 =>
  br b33 (
  call Try.prog 10 #[] w12 fun v34 w14 =>
  asB v34 fun b35 =>
  R (.bool b35) w14) (
  br ((n25 : Int) == 0) (
  ldA (⟨k26, 0, none⟩ : Addr) 36 w12 fun g36 =>
  ldA (⟨k1, 0, none⟩ : Addr) 36 w12 fun g37 =>
  still Try.prog (Op.equal 27 (.agg g36) (.agg g37)) fun b38 =>
  br (!b38) (
  call Try.prog 10 #[] w12 fun v39 w15 =>
  asB v39 fun b40 =>
  R (.bool b40) w15) (
  R (.bool false) w12)) (
  R (.bool false) w12))) (
  br ((n25 : Int) == 0) (
  ldA (⟨k26, 0, none⟩ : Addr) 36 w12 fun g41 =>
  ldA (⟨k1, 0, none⟩ : Addr) 36 w12 fun g42 =>
  still Try.prog (Op.equal 27 (.agg g41) (.agg g42)) fun b43 =>
  br (!b43) (
  call Try.prog 10 #[] w12 fun v44 w16 =>
  asB v44 fun b45 =>
  R (.bool b45) w16) (
  R (.bool false) w12)) (
  R (.bool false) w12)))))))
@[irreducible] def tenonlaw07_ObjrefBack_ann : Ann := .none
theorem tenonlaw07_ObjrefBack_call {x0 : Array Value} {x1 : Int} {x2 : Int} {R : Value → World → Prop} {w : World} (h : tenonlaw07_ObjrefBack x0 x1 x2 R w) : call Try.prog 5 #[.agg x0, .int .i64 x1, .int .u8 x2] w R :=
  call_of_fnW plain mixed Try.func5 tenonlaw07_ObjrefBack_ann (Eq.mp (by kernel_rfl : tenonlaw07_ObjrefBack x0 x1 x2 R w = fnW Try.prog Try.f5 tenonlaw07_ObjrefBack_ann #[.agg x0, .int .i64 x1, .int .u8 x2] R w) h)

def tenonlaw07_ObjrefOrder (x0 : Array Value) (x1 : Array Value) (x2 : Array Value) (R : Value → World → Prop) (w : World) : Prop :=
  new x0 27 w fun k1 w1 =>
  new x1 27 w1 fun k2 w2 =>
  new x2 27 w2 fun k3 w3 =>
  ∃ J4 : World → Prop, (
  ldA (⟨k1, 0, none⟩ : Addr) 36 w3.drew fun g5 =>
  ldA (⟨k2, 0, none⟩ : Addr) 36 w3.drew fun g6 =>
  ldA (⟨k1, 0, none⟩ : Addr) 36 w3.drew fun g7 =>
  ldA (⟨k2, 0, none⟩ : Addr) 36 w3.drew fun g8 =>
  call Try.prog 18 #[.agg g5, .agg g6] w3.drew fun v9 w4 =>
  asB v9 fun b10 =>
  keepS (cellsOf (⟨k2, 0, none⟩ : Addr) g8) w4 (
  keepS (cellsOf (⟨k1, 0, none⟩ : Addr) g7) w4 (
  call Try.prog 19 #[.agg g7, .agg g8] w4 fun v11 w5 =>
  asB v11 fun b12 =>
  br (!(b10 == b12)) (
  R (.bool false) w5) (
  ldA (⟨k1, 0, none⟩ : Addr) 36 w5 fun g13 =>
  ldA (⟨k1, 0, none⟩ : Addr) 36 w5 fun g14 =>
  call Try.prog 18 #[.agg g13, .agg g14] w5 fun v15 w6 =>
  asB v15 fun b16 =>
  br b16 (
  R (.bool false) w6) (
  ldA (⟨k1, 0, none⟩ : Addr) 36 w6 fun g17 =>
  ldA (⟨k2, 0, none⟩ : Addr) 36 w6 fun g18 =>
  call Try.prog 18 #[.agg g17, .agg g18] w6 fun v19 w7 =>
  asB v19 fun b20 =>
  br b20 (
  ldA (⟨k2, 0, none⟩ : Addr) 36 w7 fun g21 =>
  ldA (⟨k1, 0, none⟩ : Addr) 36 w7 fun g22 =>
  call Try.prog 18 #[.agg g21, .agg g22] w7 fun v23 w8 =>
  asB v23 fun b24 =>
  br b24 (
  R (.bool false) w8) (
  J4  w8)) (
  J4  w7)))))) ∧
  ∀ (u25 : Nat → Value)  (w9 : World), J4  w9 →
  ∃ J26 : World → Prop, (
  ldA (⟨k1, 0, none⟩ : Addr) 36 w9 fun g27 =>
  ldA (⟨k2, 0, none⟩ : Addr) 36 w9 fun g28 =>
  still Try.prog (Op.equal 27 (.agg g27) (.agg g28)) fun b29 =>
  br (!b29) (
  ldA (⟨k1, 0, none⟩ : Addr) 36 w9 fun g30 =>
  ldA (⟨k2, 0, none⟩ : Addr) 36 w9 fun g31 =>
  call Try.prog 18 #[.agg g30, .agg g31] w9 fun v32 w10 =>
  asB v32 fun b33 =>
  br (!b33) (
  ldA (⟨k2, 0, none⟩ : Addr) 36 w10 fun g34 =>
  ldA (⟨k1, 0, none⟩ : Addr) 36 w10 fun g35 =>
  call Try.prog 18 #[.agg g34, .agg g35] w10 fun v36 w11 =>
  asB v36 fun b37 =>
  br (!b37) (
  R (.bool false) w11) (
  J26  w11)) (
  J26  w10)) (
  J26  w9)) ∧
  ∀ (u38 : Nat → Value)  (w12 : World), J26  w12 →
  ldA (⟨k1, 0, none⟩ : Addr) 36 w12 fun g39 =>
  ldA (⟨k2, 0, none⟩ : Addr) 36 w12 fun g40 =>
  call Try.prog 18 #[.agg g39, .agg g40] w12 fun v41 w13 =>
  asB v41 fun b42 =>
  br (!b42) (
  call Try.prog 10 #[] w13 fun v43 w14 =>
  asB v43 fun b44 =>
  R (.bool b44) w14) (
  ldA (⟨k2, 0, none⟩ : Addr) 36 w13 fun g45 =>
  ldA (⟨k3, 0, none⟩ : Addr) 36 w13 fun g46 =>
  call Try.prog 18 #[.agg g45, .agg g46] w13 fun v47 w15 =>
  asB v47 fun b48 =>
  br (!b48) (
  call Try.prog 10 #[] w15 fun v49 w16 =>
  asB v49 fun b50 =>
  R (.bool b50) w16) (
  ldA (⟨k1, 0, none⟩ : Addr) 36 w15 fun g51 =>
  ldA (⟨k3, 0, none⟩ : Addr) 36 w15 fun g52 =>
  call Try.prog 18 #[.agg g51, .agg g52] w15 fun v53 w17 =>
  asB v53 fun b54 =>
  br b54 (
  call Try.prog 10 #[] w17 fun v55 w18 =>
  asB v55 fun b56 =>
  R (.bool b56) w18) (
  R (.bool false) w17)))
@[irreducible] def tenonlaw07_ObjrefOrder_ann : Ann := .seq .none (.meet [] (.seq (.draw [[], [], [0, 1], [], [], [0, 1, 2, 3, 4], [0, 1, 2, 3, 4, 5], [0, 1, 2, 3, 4, 5, 6], [0, 1, 2, 3, 4, 5, 6, 7], [0, 1, 2, 3, 4, 5, 6, 7], [0, 1, 2, 3, 4, 5, 6, 7, 8, 9], [0, 1, 2, 3, 4, 5, 6, 7, 8, 9, 10], [0, 1, 2, 3, 4, 5, 6, 7, 8, 9, 10, 11], [0, 1, 2, 3, 4, 5, 6, 7, 8, 9, 10, 11, 12], [0, 1, 2, 3, 4, 5, 6, 7, 8, 9, 10, 11, 12], [0, 1, 2, 3, 4, 5, 6, 7, 8, 9, 10, 11, 12, 13, 14], [0, 1, 2, 3, 4, 5, 6, 7, 8, 9, 10, 11, 12, 13, 14, 15], [0, 1, 2, 3, 4, 5, 6, 7, 8, 9, 10, 11, 12, 13, 14, 15, 16], [0, 1, 2, 3, 4, 5, 6, 7, 8, 9, 10, 11, 12, 13, 14, 15, 16], [0, 1, 2, 3, 4, 5, 6, 7, 8, 9, 10, 11, 12, 13, 14, 15, 16, 17, 18], [0, 1, 2, 3, 4, 5, 6, 7, 8, 9, 10, 11, 12, 13, 14, 15, 16, 17, 18, 19], [0, 1, 2, 3, 4, 5, 6, 7, 8, 9, 10, 11, 12, 13, 14, 15, 16, 17, 18, 19, 20]] (ol [0, 1, 3, 4, 2, 5, 6, 7, 8, 9, 10, 11, 12, 13, 14, 15, 16, 17, 18, 19, 20, 21] .nil)) .none) (.meet [] .none .none))
theorem tenonlaw07_ObjrefOrder_call {x0 : Array Value} {x1 : Array Value} {x2 : Array Value} {R : Value → World → Prop} {w : World} (h : tenonlaw07_ObjrefOrder x0 x1 x2 R w) : call Try.prog 6 #[.agg x0, .agg x1, .agg x2] w R :=
  call_of_fnW plain mixed Try.func6 tenonlaw07_ObjrefOrder_ann (Eq.mp (by kernel_rfl : tenonlaw07_ObjrefOrder x0 x1 x2 R w = fnW Try.prog Try.f6 tenonlaw07_ObjrefOrder_ann #[.agg x0, .agg x1, .agg x2] R w) h)

def objref_Encode (x0 : Array Value) (R : Value → World → Prop) (w : World) : Prop :=
  new x0 27 w fun k1 w1 =>
  ldA (⟨k1, 0, none⟩ : Addr) 36 w1 fun g2 =>
  call Try.prog 9 #[.agg g2] w1 fun v3 w2 =>
  asI .i64 v3 fun n4 =>
  br ((n4 : Int) != 0) (
  R (.tuple #[.slice none 0 0, .int .i64 n4]) w2) (
  call Try.prog 20 #[] w2 fun v5 w3 =>
  asP v5 fun p6 =>
  ldI .u32 ((⟨k1, 0, none⟩ : Addr).add 0) w3 fun n7 =>
  ldI .u32 ((⟨k1, 0, none⟩ : Addr).add 1) w3 fun n8 =>
  ∃ I9 : Int → World → Nat → Prop, (∃ m10, I9 0 w3 m10) ∧
  ∀ (u11 : Nat → Value) (n12 : Int) (w4 : World) (m13 : Nat), I9 n12 w4 m13 →
  br (decide ((n12 : Int) < 4)) (
  (0 ≤ n12 ∧ n12 < (4 : Int)) ∧
  fldI .u32 #[.int .u32 1464812877, .int .u32 n7, .int .u32 n8, .int .u32 0] (Int.toNat n12 * 1) fun n14 =>
  arith .u64 n14 fun n15 =>
  call Try.prog 21 #[.pointer p6, .int .u64 n15, .int .i64 4] w4 fun v16 w5 =>
  asI .i64 v16 fun n17 =>
  arith .i64 (n12 + 1) fun n18 =>
  ∃ m19, m19 < m13 ∧ I9 n18 w5 m19) (
  ldI .u64 ((⟨k1, 0, none⟩ : Addr).add 2) w4 fun n20 =>
  call Try.prog 21 #[.pointer p6, .int .u64 n20, .int .i64 8] w4 fun v21 w6 =>
  asI .i64 v21 fun n22 =>
  ldI .u64 ((⟨k1, 0, none⟩ : Addr).add 3) w6 fun n23 =>
  call Try.prog 21 #[.pointer p6, .int .u64 n23, .int .i64 8] w6 fun v24 w7 =>
  asI .i64 v24 fun n25 =>
  ldA ((⟨k1, 0, none⟩ : Addr).add 4) 16 w7 fun g26 =>
  ldA ((⟨k1, 0, none⟩ : Addr).add 20) 16 w7 fun g27 =>
  (g26 : Array Value).size = 16 ∧
  (g27 : Array Value).size = 16 ∧
  ∃ I28 : Int → World → Nat → Prop, (∃ m29, I28 0 w7 m29) ∧
  ∀ (u30 : Nat → Value) (n31 : Int) (w8 : World) (m32 : Nat), I28 n31 w8 m32 →
  br (decide ((n31 : Int) < 2)) (
  (0 ≤ n31 ∧ n31 < (2 : Int)) ∧
  new #[.int .u8 0, .int .u8 0, .int .u8 0, .int .u8 0, .int .u8 0, .int .u8 0, .int .u8 0, .int .u8 0, .int .u8 0, .int .u8 0, .int .u8 0, .int .u8 0, .int .u8 0, .int .u8 0, .int .u8 0, .int .u8 0] 25 w8 fun k33 w9 =>
  stA Try.prog (⟨k33, 0, none⟩ : Addr) 16 (((#[] ++ g26) ++ g27).extract (Int.toNat n31 * 16) ((Int.toNat n31 * 16) + 16)) w9 fun w10 =>
  ldA (⟨k33, 0, none⟩ : Addr) 16 w10 fun g34 =>
  ∃ I35 : Int → World → Nat → Prop, (∃ m36, I35 0 w10 m36) ∧
  ∀ (u37 : Nat → Value) (n38 : Int) (w11 : World) (m39 : Nat), I35 n38 w11 m39 →
  br (decide ((n38 : Int) < 16)) (
  (0 ≤ n38 ∧ n38 < (16 : Int)) ∧
  fldI .u8 g34 (Int.toNat n38 * 1) fun n40 =>
  arith .u64 n40 fun n41 =>
  call Try.prog 21 #[.pointer p6, .int .u64 n41, .int .i64 1] w11 fun v42 w12 =>
  asI .i64 v42 fun n43 =>
  arith .i64 (n38 + 1) fun n44 =>
  ∃ m45, m45 < m39 ∧ I35 n44 w12 m45) (
  arith .i64 (n31 + 1) fun n46 =>
  ∃ m47, m47 < m32 ∧ I28 n46 w11 m47)) (
  call Try.prog 22 #[.pointer p6] w8 fun v48 w13 =>
  asS v48 fun p49 l49 c49 =>
  R (.tuple #[.slice p49 l49 c49, .int .i64 0]) w13)))
@[irreducible] def objref_Encode_ann : Ann := .seq .none (.seq .none (.seq .none (.seq (.seq .none (.one (.loop [(23, .int .i64)] .none))) (.seq .none (.seq .none (.seq (.seq .none (.one (.loop [(44, .int .i64)] (.seq .none (.seq .none (.seq (.one (.seq .none (.seq .none (.one (.loop [(48, .int .i64)] .none))))) .none)))))) .none))))))
theorem objref_Encode_call {x0 : Array Value} {R : Value → World → Prop} {w : World} (h : objref_Encode x0 R w) : call Try.prog 7 #[.agg x0] w R :=
  call_of_fnW plain mixed Try.func7 objref_Encode_ann (Eq.mp (by kernel_rfl : objref_Encode x0 R w = fnW Try.prog Try.f7 objref_Encode_ann #[.agg x0] R w) h)

def tenonref07_Right (x0 : Array Value) (R : Value → World → Prop) (w : World) : Prop :=
  new x0 27 w fun k1 w1 =>
  ldI .u32 ((⟨k1, 0, none⟩ : Addr).add 0) w1 fun n2 =>
  br ((n2 : Int) == 0) (
  ldI .u32 ((⟨k1, 0, none⟩ : Addr).add 1) w1 fun n3 =>
  R (.bool (decide ((n3 : Int) > 0))) w1) (
  br ((n2 : Int) == 1) (
  br ((n2 : Int) == 1) (
  ldI .u32 ((⟨k1, 0, none⟩ : Addr).add 1) w1 fun n4 =>
  R (.bool ((n4 : Int) == 0)) w1) (
  R (.bool false) w1)) (
  br ((n2 : Int) == 2) (
  ldI .u32 ((⟨k1, 0, none⟩ : Addr).add 1) w1 fun n5 =>
  R (.bool ((n5 : Int) == 0)) w1) (
  R (.bool false) w1)))
@[irreducible] def tenonref07_Right_ann : Ann := .none
theorem tenonref07_Right_call {x0 : Array Value} {R : Value → World → Prop} {w : World} (h : tenonref07_Right x0 R w) : call Try.prog 8 #[.agg x0] w R :=
  call_of_fnW plain mixed Try.func8 tenonref07_Right_ann (Eq.mp (by kernel_rfl : tenonref07_Right x0 R w = fnW Try.prog Try.f8 tenonref07_Right_ann #[.agg x0] R w) h)

def objref_Check (x0 : Array Value) (R : Value → World → Prop) (w : World) : Prop :=
  new x0 27 w fun k1 w1 =>
  ldI .u32 ((⟨k1, 0, none⟩ : Addr).add 0) w1 fun n2 =>
  br (decide ((n2 : Int) > 2)) (
  R (.int .i64 5) w1) (
  ldI .u32 ((⟨k1, 0, none⟩ : Addr).add 0) w1 fun n3 =>
  ldI .u32 ((⟨k1, 0, none⟩ : Addr).add 1) w1 fun n4 =>
  br (!(((n3 : Int) == 0) == (decide ((n4 : Int) > 0)))) (
  R (.int .i64 5) w1) (
  R (.int .i64 0) w1))
@[irreducible] def objref_Check_ann : Ann := .none
theorem objref_Check_call {x0 : Array Value} {R : Value → World → Prop} {w : World} (h : objref_Check x0 R w) : call Try.prog 9 #[.agg x0] w R :=
  call_of_fnW plain mixed Try.func9 objref_Check_ann (Eq.mp (by kernel_rfl : objref_Check x0 R w = fnW Try.prog Try.f9 objref_Check_ann #[.agg x0] R w) h)

def tenonlaw07_awake  (R : Value → World → Prop) (w : World) : Prop :=
  call Try.prog 7 #[.agg #[.int .u32 0, .int .u32 5, .int .u64 1, .int .u64 2, .int .u8 0, .int .u8 0, .int .u8 0, .int .u8 0, .int .u8 0, .int .u8 0, .int .u8 0, .int .u8 0, .int .u8 0, .int .u8 0, .int .u8 0, .int .u8 0, .int .u8 0, .int .u8 0, .int .u8 0, .int .u8 0, .int .u8 0, .int .u8 0, .int .u8 0, .int .u8 0, .int .u8 0, .int .u8 0, .int .u8 0, .int .u8 0, .int .u8 0, .int .u8 0, .int .u8 0, .int .u8 0, .int .u8 0, .int .u8 0, .int .u8 0, .int .u8 0]] w fun v1 w1 =>
  ∃ (p2 : Option Addr) (l2 c2 : Nat) (n3 : Int),
  v1 = .tuple #[.slice p2 l2 c2, .int .i64 n3] ∧
  call Try.prog 14 #[.slice p2 l2 c2] w1 fun v4 w2 =>
  ∃ (g5 : Array Value) (n6 : Int),
  v4 = .tuple #[.agg g5, .int .i64 n6] ∧
  new #[.int .u32 0, .int .u32 0, .int .u64 0, .int .u64 0, .int .u8 0, .int .u8 0, .int .u8 0, .int .u8 0, .int .u8 0, .int .u8 0, .int .u8 0, .int .u8 0, .int .u8 0, .int .u8 0, .int .u8 0, .int .u8 0, .int .u8 0, .int .u8 0, .int .u8 0, .int .u8 0, .int .u8 0, .int .u8 0, .int .u8 0, .int .u8 0, .int .u8 0, .int .u8 0, .int .u8 0, .int .u8 0, .int .u8 0, .int .u8 0, .int .u8 0, .int .u8 0, .int .u8 0, .int .u8 0, .int .u8 0, .int .u8 0] 27 w2 fun k7 w3 =>
  stA Try.prog (⟨k7, 0, none⟩ : Addr) 36 g5 w3 fun w4 =>
  br ((n3 : Int) == 0) (
  br ((n6 : Int) == 0) (
  br ((l2 : Int) == 64) (
  idx p2 l2 0 1 fun a8 =>
  ldI .u8 a8 w4 fun n9 =>
  br ((n9 : Int) == 77) (
  idx p2 l2 8 1 fun a10 =>
  ldI .u8 a10 w4 fun n11 =>
  br ((n11 : Int) == 5) (
  idx p2 l2 24 1 fun a12 =>
  ldI .u8 a12 w4 fun n13 =>
  br ((n13 : Int) == 2) (
  ldI .u32 ((⟨k7, 0, none⟩ : Addr).add 1) w4 fun n14 =>
  R (.bool ((n14 : Int) == 5)) w4) (
  R (.bool false) w4)) (
  R (.bool false) w4)) (
  R (.bool false) w4)) (
  R (.bool false) w4)) (
  R (.bool false) w4)) (
  R (.bool false) w4)
@[irreducible] def tenonlaw07_awake_ann : Ann := .none
theorem tenonlaw07_awake_call  {R : Value → World → Prop} {w : World} (h : tenonlaw07_awake  R w) : call Try.prog 10 #[] w R :=
  call_of_fnW plain mixed Try.func10 tenonlaw07_awake_ann (Eq.mp (by kernel_rfl : tenonlaw07_awake  R w = fnW Try.prog Try.f10 tenonlaw07_awake_ann #[] R w) h)

def tenonref01_SameBytes (x0 : Option Addr) (y0 z0 : Nat) (x1 : Option Addr) (y1 z1 : Nat) (R : Value → World → Prop) (w : World) : Prop :=
  br ((y0 : Int) != (y1 : Int)) (
  R (.bool false) w) (
  ∃ I1 : Int → World → Nat → Prop, (∃ m2, I1 0 w m2) ∧
  ∀ (u3 : Nat → Value) (n4 : Int) (w1 : World) (m5 : Nat), I1 n4 w1 m5 →
  br (decide ((n4 : Int) < (y0 : Int))) (
  idx x0 y0 n4 1 fun a6 =>
  ldI .u8 a6 w1.drew fun n7 =>
  idx x1 y1 n4 1 fun a8 =>
  ldI .u8 a8 w1.drew fun n9 =>
  br ((n7 : Int) != n9) (
  R (.bool false) w1.drew) (
  arith .i64 (n4 + 1) fun n10 =>
  ∃ m11, m11 < m5 ∧ I1 n10 w1.drew m11)) (
  R (.bool true) w1))
@[irreducible] def tenonref01_SameBytes_ann : Ann := .seq .none (.seq .none (.seq (.seq .none (.one (.loop [(5, .int .i64)] (.seq .none (.seq (.one (.seq (.draw [[], [], [0, 1], [0, 1, 2], [], [], [4, 5], [4, 5, 6], [0, 1, 2, 3, 4, 5, 6, 7]] (ol [0, 1, 2, 3, 4, 5, 6, 7, 8] .nil)) .none)) .none))))) .none))
theorem tenonref01_SameBytes_call {x0 : Option Addr} {y0 z0 : Nat} {x1 : Option Addr} {y1 z1 : Nat} {R : Value → World → Prop} {w : World} (h : tenonref01_SameBytes x0 y0 z0 x1 y1 z1 R w) : call Try.prog 11 #[.slice x0 y0 z0, .slice x1 y1 z1] w R :=
  call_of_fnW plain mixed Try.func11 tenonref01_SameBytes_ann (Eq.mp (by kernel_rfl : tenonref01_SameBytes x0 y0 z0 x1 y1 z1 R w = fnW Try.prog Try.f11 tenonref01_SameBytes_ann #[.slice x0 y0 z0, .slice x1 y1 z1] R w) h)

def tenonref07_Encode (x0 : Option Addr) (y0 z0 : Nat) (x1 : Array Value) (R : Value → World → Prop) (w : World) : Prop :=
  new x1 27 w fun k1 w1 =>
  runsS Try.prog (Builtin.append_ #[28, 28] 28 #[.slice none 0 0, .slice x0 y0 z0]) w1 fun p2 l2 c2 w2 =>
  new #[.int .u8 77, .int .u8 69, .int .u8 79, .int .u8 87] 5 w2 fun k3 w3 =>
  runsS Try.prog (Builtin.append_ #[28, 28] 28 #[.slice p2 l2 c2, .slice (some (⟨k3, 0, none⟩ : Addr)) 4 4]) w3 fun p4 l4 c4 w4 =>
  ldI .u32 ((⟨k1, 0, none⟩ : Addr).add 0) w4 fun n5 =>
  arith .u64 n5 fun n6 =>
  call Try.prog 23 #[.slice p4 l4 c4, .int .u64 n6, .int .i64 4] w4 fun v7 w5 =>
  asS v7 fun p8 l8 c8 =>
  ldI .u32 ((⟨k1, 0, none⟩ : Addr).add 1) w5 fun n9 =>
  arith .u64 n9 fun n10 =>
  call Try.prog 23 #[.slice p8 l8 c8, .int .u64 n10, .int .i64 4] w5 fun v11 w6 =>
  asS v11 fun p12 l12 c12 =>
  new #[.int .u8 0, .int .u8 0, .int .u8 0, .int .u8 0] 5 w6 fun k13 w7 =>
  runsS Try.prog (Builtin.append_ #[28, 28] 28 #[.slice p12 l12 c12, .slice (some (⟨k13, 0, none⟩ : Addr)) 4 4]) w7 fun p14 l14 c14 w8 =>
  ldI .u64 ((⟨k1, 0, none⟩ : Addr).add 2) w8 fun n15 =>
  call Try.prog 23 #[.slice p14 l14 c14, .int .u64 n15, .int .i64 8] w8 fun v16 w9 =>
  asS v16 fun p17 l17 c17 =>
  ldI .u64 ((⟨k1, 0, none⟩ : Addr).add 3) w9 fun n18 =>
  call Try.prog 23 #[.slice p17 l17 c17, .int .u64 n18, .int .i64 8] w9 fun v19 w10 =>
  asS v19 fun p20 l20 c20 =>
  slc (some ((⟨k1, 0, none⟩ : Addr).add 4)) 16 1 0 ((16 : Int)) fun p21 l21 c21 =>
  runsS Try.prog (Builtin.append_ #[28, 28] 28 #[.slice p20 l20 c20, .slice p21 l21 c21]) w10 fun p22 l22 c22 w11 =>
  slc (some ((⟨k1, 0, none⟩ : Addr).add 20)) 16 1 0 ((16 : Int)) fun p23 l23 c23 =>
  runsS Try.prog (Builtin.append_ #[28, 28] 28 #[.slice p22 l22 c22, .slice p23 l23 c23]) w11 fun p24 l24 c24 w12 =>
  R (.slice p24 l24 c24) w12
@[irreducible] def tenonref07_Encode_ann : Ann := .none
theorem tenonref07_Encode_call {x0 : Option Addr} {y0 z0 : Nat} {x1 : Array Value} {R : Value → World → Prop} {w : World} (h : tenonref07_Encode x0 y0 z0 x1 R w) : call Try.prog 12 #[.slice x0 y0 z0, .agg x1] w R :=
  call_of_fnW plain mixed Try.func12 tenonref07_Encode_ann (Eq.mp (by kernel_rfl : tenonref07_Encode x0 y0 z0 x1 R w = fnW Try.prog Try.f12 tenonref07_Encode_ann #[.slice x0 y0 z0, .agg x1] R w) h)

def tenonref01_Lent (x0 : Option Addr) (y0 z0 : Nat) (R : Value → World → Prop) (w : World) : Prop :=
  arith .i64 ((y0 : Int) + 4) fun n1 =>
  runsS Try.prog (Instr.makeSlice 28 (.int .i64 0) (.int .i64 n1)) w fun p2 l2 c2 w1 =>
  ∃ I3 : Option Addr → Nat → Nat → Int → World → Nat → Prop, (∃ m4, I3 p2 l2 c2 0 w1 m4) ∧
  ∀ (u5 : Nat → Value) (p6 : Option Addr) (l6 c6 : Nat) (n7 : Int) (w2 : World) (m8 : Nat), I3 p6 l6 c6 n7 w2 m8 →
  br (decide ((n7 : Int) < (y0 : Int))) (
  idx x0 y0 n7 1 fun a9 =>
  ldI .u8 a9 w2 fun n10 =>
  new #[.int .u8 n10] 5 w2 fun k11 w3 =>
  runsS Try.prog (Builtin.append_ #[28, 28] 28 #[.slice p6 l6 c6, .slice (some (⟨k11, 0, none⟩ : Addr)) 1 1]) w3 fun p12 l12 c12 w4 =>
  arith .i64 (n7 + 1) fun n13 =>
  ∃ m14, m14 < m8 ∧ I3 p12 l12 c12 n13 w4 m14) (
  new #[.int .u8 90, .int .u8 91, .int .u8 92, .int .u8 93] 5 w2 fun k15 w5 =>
  runsS Try.prog (Builtin.append_ #[28, 28] 28 #[.slice p6 l6 c6, .slice (some (⟨k15, 0, none⟩ : Addr)) 4 4]) w5 fun p16 l16 c16 w6 =>
  slc p16 c16 1 0 ((y0 : Int)) fun p17 l17 c17 =>
  R (.slice p17 l17 c17) w6)
@[irreducible] def tenonref01_Lent_ann : Ann := .seq .none (.seq .none (.seq (.seq .none (.one (.loop [(3, .slice), (4, .int .i64)] .none))) .none))
theorem tenonref01_Lent_call {x0 : Option Addr} {y0 z0 : Nat} {R : Value → World → Prop} {w : World} (h : tenonref01_Lent x0 y0 z0 R w) : call Try.prog 13 #[.slice x0 y0 z0] w R :=
  call_of_fnW plain mixed Try.func13 tenonref01_Lent_ann (Eq.mp (by kernel_rfl : tenonref01_Lent x0 y0 z0 R w = fnW Try.prog Try.f13 tenonref01_Lent_ann #[.slice x0 y0 z0] R w) h)

def objref_Decode (x0 : Option Addr) (y0 z0 : Nat) (R : Value → World → Prop) (w : World) : Prop :=
  new #[.int .u32 0, .int .u32 0, .int .u64 0, .int .u64 0, .int .u8 0, .int .u8 0, .int .u8 0, .int .u8 0, .int .u8 0, .int .u8 0, .int .u8 0, .int .u8 0, .int .u8 0, .int .u8 0, .int .u8 0, .int .u8 0, .int .u8 0, .int .u8 0, .int .u8 0, .int .u8 0, .int .u8 0, .int .u8 0, .int .u8 0, .int .u8 0, .int .u8 0, .int .u8 0, .int .u8 0, .int .u8 0, .int .u8 0, .int .u8 0, .int .u8 0, .int .u8 0, .int .u8 0, .int .u8 0, .int .u8 0, .int .u8 0] 27 w fun k1 w1 =>
  br (decide ((y0 : Int) < 64)) (
  stA Try.prog (⟨k1, 0, none⟩ : Addr) 36 #[.int .u32 0, .int .u32 0, .int .u64 0, .int .u64 0, .int .u8 0, .int .u8 0, .int .u8 0, .int .u8 0, .int .u8 0, .int .u8 0, .int .u8 0, .int .u8 0, .int .u8 0, .int .u8 0, .int .u8 0, .int .u8 0, .int .u8 0, .int .u8 0, .int .u8 0, .int .u8 0, .int .u8 0, .int .u8 0, .int .u8 0, .int .u8 0, .int .u8 0, .int .u8 0, .int .u8 0, .int .u8 0, .int .u8 0, .int .u8 0, .int .u8 0, .int .u8 0, .int .u8 0, .int .u8 0, .int .u8 0, .int .u8 0] w1 fun w2 =>
  ldA (⟨k1, 0, none⟩ : Addr) 36 w2 fun g2 =>
  R (.tuple #[.agg g2, .int .i64 6]) w2) (
  call Try.prog 24 #[.slice x0 y0 z0] w1 fun v3 w3 =>
  asP v3 fun p4 =>
  new #[.int .u64 0, .int .u64 0, .int .u64 0, .int .u64 0] 56 w3 fun k5 w4 =>
  ∃ I6 : Int → World → Nat → Prop, (∃ m7, I6 0 w4 m7) ∧
  ∀ (u8 : Nat → Value) (n9 : Int) (w5 : World) (m10 : Nat), I6 n9 w5 m10 →
  br (decide ((n9 : Int) < 4)) (
  call Try.prog 25 #[.pointer p4, .int .i64 4] w5 fun v11 w6 =>
  ∃ (n12 : Int) (n13 : Int),
  v11 = .tuple #[.int .u64 n12, .int .i64 n13] ∧
  idxA (⟨k5, 0, none⟩ : Addr) 4 n9 1 fun a14 =>
  st a14 (.int .u64 n12) w6 fun w7 =>
  arith .i64 (n9 + 1) fun n15 =>
  ∃ m16, m16 < m10 ∧ I6 n15 w7 m16) (
  idxA (⟨k5, 0, none⟩ : Addr) 4 1 1 fun a17 =>
  ldI .u64 a17 w5 fun n18 =>
  arith .u32 n18 fun n19 =>
  idxA (⟨k5, 0, none⟩ : Addr) 4 2 1 fun a20 =>
  ldI .u64 a20 w5 fun n21 =>
  arith .u32 n21 fun n22 =>
  new #[.int .u32 0, .int .u32 0, .int .u64 0, .int .u64 0, .int .u8 0, .int .u8 0, .int .u8 0, .int .u8 0, .int .u8 0, .int .u8 0, .int .u8 0, .int .u8 0, .int .u8 0, .int .u8 0, .int .u8 0, .int .u8 0, .int .u8 0, .int .u8 0, .int .u8 0, .int .u8 0, .int .u8 0, .int .u8 0, .int .u8 0, .int .u8 0, .int .u8 0, .int .u8 0, .int .u8 0, .int .u8 0, .int .u8 0, .int .u8 0, .int .u8 0, .int .u8 0, .int .u8 0, .int .u8 0, .int .u8 0, .int .u8 0] 27 w5 fun k23 w8 =>
  stA Try.prog (⟨k23, 0, none⟩ : Addr) 36 #[.int .u32 n19, .int .u32 n22, .int .u64 0, .int .u64 0, .int .u8 0, .int .u8 0, .int .u8 0, .int .u8 0, .int .u8 0, .int .u8 0, .int .u8 0, .int .u8 0, .int .u8 0, .int .u8 0, .int .u8 0, .int .u8 0, .int .u8 0, .int .u8 0, .int .u8 0, .int .u8 0, .int .u8 0, .int .u8 0, .int .u8 0, .int .u8 0, .int .u8 0, .int .u8 0, .int .u8 0, .int .u8 0, .int .u8 0, .int .u8 0, .int .u8 0, .int .u8 0, .int .u8 0, .int .u8 0, .int .u8 0, .int .u8 0] w8 fun w9 =>
  call Try.prog 25 #[.pointer p4, .int .i64 8] w9 fun v24 w10 =>
  ∃ (n25 : Int) (n26 : Int),
  v24 = .tuple #[.int .u64 n25, .int .i64 n26] ∧
  st ((⟨k23, 0, none⟩ : Addr).add 2) (.int .u64 n25) w10 fun w11 =>
  call Try.prog 25 #[.pointer p4, .int .i64 8] w11 fun v27 w12 =>
  ∃ (n28 : Int) (n29 : Int),
  v27 = .tuple #[.int .u64 n28, .int .i64 n29] ∧
  st ((⟨k23, 0, none⟩ : Addr).add 3) (.int .u64 n28) w12 fun w13 =>
  call Try.prog 26 #[.pointer p4] w13 fun v30 w14 =>
  asA v30 fun g31 =>
  stA Try.prog ((⟨k23, 0, none⟩ : Addr).add 4) 16 g31 w14 fun w15 =>
  call Try.prog 26 #[.pointer p4] w15 fun v32 w16 =>
  asA v32 fun g33 =>
  stA Try.prog ((⟨k23, 0, none⟩ : Addr).add 20) 16 g33 w16 fun w17 =>
  idxA (⟨k5, 0, none⟩ : Addr) 4 0 1 fun a34 =>
  ldI .u64 a34 w17 fun n35 =>
  br ((n35 : Int) != 1464812877) (
  stA Try.prog (⟨k1, 0, none⟩ : Addr) 36 #[.int .u32 0, .int .u32 0, .int .u64 0, .int .u64 0, .int .u8 0, .int .u8 0, .int .u8 0, .int .u8 0, .int .u8 0, .int .u8 0, .int .u8 0, .int .u8 0, .int .u8 0, .int .u8 0, .int .u8 0, .int .u8 0, .int .u8 0, .int .u8 0, .int .u8 0, .int .u8 0, .int .u8 0, .int .u8 0, .int .u8 0, .int .u8 0, .int .u8 0, .int .u8 0, .int .u8 0, .int .u8 0, .int .u8 0, .int .u8 0, .int .u8 0, .int .u8 0, .int .u8 0, .int .u8 0, .int .u8 0, .int .u8 0] w17 fun w18 =>
  ldA (⟨k1, 0, none⟩ : Addr) 36 w18 fun g36 =>
  R (.tuple #[.agg g36, .int .i64 5]) w18) (
  idxA (⟨k5, 0, none⟩ : Addr) 4 3 1 fun a37 =>
  ldI .u64 a37 w17 fun n38 =>
  br ((n38 : Int) != 0) (
  stA Try.prog (⟨k1, 0, none⟩ : Addr) 36 #[.int .u32 0, .int .u32 0, .int .u64 0, .int .u64 0, .int .u8 0, .int .u8 0, .int .u8 0, .int .u8 0, .int .u8 0, .int .u8 0, .int .u8 0, .int .u8 0, .int .u8 0, .int .u8 0, .int .u8 0, .int .u8 0, .int .u8 0, .int .u8 0, .int .u8 0, .int .u8 0, .int .u8 0, .int .u8 0, .int .u8 0, .int .u8 0, .int .u8 0, .int .u8 0, .int .u8 0, .int .u8 0, .int .u8 0, .int .u8 0, .int .u8 0, .int .u8 0, .int .u8 0, .int .u8 0, .int .u8 0, .int .u8 0] w17 fun w19 =>
  ldA (⟨k1, 0, none⟩ : Addr) 36 w19 fun g39 =>
  R (.tuple #[.agg g39, .int .i64 5]) w19) (
  call Try.prog 27 #[.pointer p4] w17 fun v40 w20 =>
  asI .i64 v40 fun n41 =>
  br ((n41 : Int) != 0) (
  stA Try.prog (⟨k1, 0, none⟩ : Addr) 36 #[.int .u32 0, .int .u32 0, .int .u64 0, .int .u64 0, .int .u8 0, .int .u8 0, .int .u8 0, .int .u8 0, .int .u8 0, .int .u8 0, .int .u8 0, .int .u8 0, .int .u8 0, .int .u8 0, .int .u8 0, .int .u8 0, .int .u8 0, .int .u8 0, .int .u8 0, .int .u8 0, .int .u8 0, .int .u8 0, .int .u8 0, .int .u8 0, .int .u8 0, .int .u8 0, .int .u8 0, .int .u8 0, .int .u8 0, .int .u8 0, .int .u8 0, .int .u8 0, .int .u8 0, .int .u8 0, .int .u8 0, .int .u8 0] w20 fun w21 =>
  ldA (⟨k1, 0, none⟩ : Addr) 36 w21 fun g42 =>
  R (.tuple #[.agg g42, .int .i64 5]) w21) (
  ldA (⟨k23, 0, none⟩ : Addr) 36 w20 fun g43 =>
  call Try.prog 9 #[.agg g43] w20 fun v44 w22 =>
  asI .i64 v44 fun n45 =>
  br ((n45 : Int) != 0) (
  stA Try.prog (⟨k1, 0, none⟩ : Addr) 36 #[.int .u32 0, .int .u32 0, .int .u64 0, .int .u64 0, .int .u8 0, .int .u8 0, .int .u8 0, .int .u8 0, .int .u8 0, .int .u8 0, .int .u8 0, .int .u8 0, .int .u8 0, .int .u8 0, .int .u8 0, .int .u8 0, .int .u8 0, .int .u8 0, .int .u8 0, .int .u8 0, .int .u8 0, .int .u8 0, .int .u8 0, .int .u8 0, .int .u8 0, .int .u8 0, .int .u8 0, .int .u8 0, .int .u8 0, .int .u8 0, .int .u8 0, .int .u8 0, .int .u8 0, .int .u8 0, .int .u8 0, .int .u8 0] w22 fun w23 =>
  ldA (⟨k1, 0, none⟩ : Addr) 36 w23 fun g46 =>
  R (.tuple #[.agg g46, .int .i64 5]) w23) (
  ldA (⟨k23, 0, none⟩ : Addr) 36 w22 fun g47 =>
  stA Try.prog (⟨k1, 0, none⟩ : Addr) 36 g47 w22 fun w24 =>
  ldA (⟨k1, 0, none⟩ : Addr) 36 w24 fun g48 =>
  R (.tuple #[.agg g48, .int .i64 0]) w24))))))
@[irreducible] def objref_Decode_ann : Ann := .seq .none (.seq .none (.seq .none (.seq .none (.seq (.seq .none (.one (.loop [(14, .int .i64)] .none))) .none))))
theorem objref_Decode_call {x0 : Option Addr} {y0 z0 : Nat} {R : Value → World → Prop} {w : World} (h : objref_Decode x0 y0 z0 R w) : call Try.prog 14 #[.slice x0 y0 z0] w R :=
  call_of_fnW plain mixed Try.func14 objref_Decode_ann (Eq.mp (by kernel_rfl : objref_Decode x0 y0 z0 R w = fnW Try.prog Try.f14 objref_Decode_ann #[.slice x0 y0 z0] R w) h)

def tenonref07_Decode (x0 : Option Addr) (y0 z0 : Nat) (R : Value → World → Prop) (w : World) : Prop :=
  new #[.int .u32 0, .int .u32 0, .int .u64 0, .int .u64 0, .int .u8 0, .int .u8 0, .int .u8 0, .int .u8 0, .int .u8 0, .int .u8 0, .int .u8 0, .int .u8 0, .int .u8 0, .int .u8 0, .int .u8 0, .int .u8 0, .int .u8 0, .int .u8 0, .int .u8 0, .int .u8 0, .int .u8 0, .int .u8 0, .int .u8 0, .int .u8 0, .int .u8 0, .int .u8 0, .int .u8 0, .int .u8 0, .int .u8 0, .int .u8 0, .int .u8 0, .int .u8 0, .int .u8 0, .int .u8 0, .int .u8 0, .int .u8 0] 27 w fun k1 w1 =>
  br (decide ((y0 : Int) < 64)) (
  stA Try.prog (⟨k1, 0, none⟩ : Addr) 36 #[.int .u32 0, .int .u32 0, .int .u64 0, .int .u64 0, .int .u8 0, .int .u8 0, .int .u8 0, .int .u8 0, .int .u8 0, .int .u8 0, .int .u8 0, .int .u8 0, .int .u8 0, .int .u8 0, .int .u8 0, .int .u8 0, .int .u8 0, .int .u8 0, .int .u8 0, .int .u8 0, .int .u8 0, .int .u8 0, .int .u8 0, .int .u8 0, .int .u8 0, .int .u8 0, .int .u8 0, .int .u8 0, .int .u8 0, .int .u8 0, .int .u8 0, .int .u8 0, .int .u8 0, .int .u8 0, .int .u8 0, .int .u8 0] w1 fun w2 =>
  ldA (⟨k1, 0, none⟩ : Addr) 36 w2 fun g2 =>
  R (.tuple #[.agg g2, .int .i64 6]) w2) (
  ∃ J3 : Addr → World → Prop, (
  slc x0 z0 1 4 8 fun p4 l4 c4 =>
  slc x0 z0 1 8 12 fun p5 l5 c5 =>
  slc x0 z0 1 16 24 fun p6 l6 c6 =>
  slc x0 z0 1 24 32 fun p7 l7 c7 =>
  (call Try.prog 28 #[.slice p4 l4 c4] w1.drew fun v8 w3 =>
  asI .u64 v8 fun n9 =>
  arith .u32 n9 fun n10 =>
  (call Try.prog 28 #[.slice p5 l5 c5] w3 fun v11 w4 =>
  asI .u64 v11 fun n12 =>
  arith .u32 n12 fun n13 =>
  (call Try.prog 28 #[.slice p6 l6 c6] w4 fun v14 w5 =>
  asI .u64 v14 fun n15 =>
  (call Try.prog 28 #[.slice p7 l7 c7] w5 fun v16 w6 =>
  asI .u64 v16 fun n17 =>
  new #[.int .u32 0, .int .u32 0, .int .u64 0, .int .u64 0, .int .u8 0, .int .u8 0, .int .u8 0, .int .u8 0, .int .u8 0, .int .u8 0, .int .u8 0, .int .u8 0, .int .u8 0, .int .u8 0, .int .u8 0, .int .u8 0, .int .u8 0, .int .u8 0, .int .u8 0, .int .u8 0, .int .u8 0, .int .u8 0, .int .u8 0, .int .u8 0, .int .u8 0, .int .u8 0, .int .u8 0, .int .u8 0, .int .u8 0, .int .u8 0, .int .u8 0, .int .u8 0, .int .u8 0, .int .u8 0, .int .u8 0, .int .u8 0] 27 w6 fun k18 w7 =>
  stA Try.prog (⟨k18, 0, none⟩ : Addr) 36 #[.int .u32 n10, .int .u32 n13, .int .u64 n15, .int .u64 n17, .int .u8 0, .int .u8 0, .int .u8 0, .int .u8 0, .int .u8 0, .int .u8 0, .int .u8 0, .int .u8 0, .int .u8 0, .int .u8 0, .int .u8 0, .int .u8 0, .int .u8 0, .int .u8 0, .int .u8 0, .int .u8 0, .int .u8 0, .int .u8 0, .int .u8 0, .int .u8 0, .int .u8 0, .int .u8 0, .int .u8 0, .int .u8 0, .int .u8 0, .int .u8 0, .int .u8 0, .int .u8 0, .int .u8 0, .int .u8 0, .int .u8 0, .int .u8 0] w7 fun w8 =>
  J3 (⟨k18, 0, none⟩ : Addr) w8) ∧
  (new #[.int .u32 0, .int .u32 0, .int .u64 0, .int .u64 0, .int .u8 0, .int .u8 0, .int .u8 0, .int .u8 0, .int .u8 0, .int .u8 0, .int .u8 0, .int .u8 0, .int .u8 0, .int .u8 0, .int .u8 0, .int .u8 0, .int .u8 0, .int .u8 0, .int .u8 0, .int .u8 0, .int .u8 0, .int .u8 0, .int .u8 0, .int .u8 0, .int .u8 0, .int .u8 0, .int .u8 0, .int .u8 0, .int .u8 0, .int .u8 0, .int .u8 0, .int .u8 0, .int .u8 0, .int .u8 0, .int .u8 0, .int .u8 0] 27 w5 fun k19 w9 =>
  call Try.prog 28 #[.slice p7 l7 c7] w9 fun v20 w10 =>
  asI .u64 v20 fun n21 =>
  stA Try.prog (⟨k19, 0, none⟩ : Addr) 36 #[.int .u32 n10, .int .u32 n13, .int .u64 n15, .int .u64 n21, .int .u8 0, .int .u8 0, .int .u8 0, .int .u8 0, .int .u8 0, .int .u8 0, .int .u8 0, .int .u8 0, .int .u8 0, .int .u8 0, .int .u8 0, .int .u8 0, .int .u8 0, .int .u8 0, .int .u8 0, .int .u8 0, .int .u8 0, .int .u8 0, .int .u8 0, .int .u8 0, .int .u8 0, .int .u8 0, .int .u8 0, .int .u8 0, .int .u8 0, .int .u8 0, .int .u8 0, .int .u8 0, .int .u8 0, .int .u8 0, .int .u8 0, .int .u8 0] w10 fun w11 =>
  J3 (⟨k19, 0, none⟩ : Addr) w11)) ∧
  (new #[.int .u32 0, .int .u32 0, .int .u64 0, .int .u64 0, .int .u8 0, .int .u8 0, .int .u8 0, .int .u8 0, .int .u8 0, .int .u8 0, .int .u8 0, .int .u8 0, .int .u8 0, .int .u8 0, .int .u8 0, .int .u8 0, .int .u8 0, .int .u8 0, .int .u8 0, .int .u8 0, .int .u8 0, .int .u8 0, .int .u8 0, .int .u8 0, .int .u8 0, .int .u8 0, .int .u8 0, .int .u8 0, .int .u8 0, .int .u8 0, .int .u8 0, .int .u8 0, .int .u8 0, .int .u8 0, .int .u8 0, .int .u8 0] 27 w4 fun k22 w12 =>
  call Try.prog 28 #[.slice p6 l6 c6] w12 fun v23 w13 =>
  asI .u64 v23 fun n24 =>
  call Try.prog 28 #[.slice p7 l7 c7] w13 fun v25 w14 =>
  asI .u64 v25 fun n26 =>
  stA Try.prog (⟨k22, 0, none⟩ : Addr) 36 #[.int .u32 n10, .int .u32 n13, .int .u64 n24, .int .u64 n26, .int .u8 0, .int .u8 0, .int .u8 0, .int .u8 0, .int .u8 0, .int .u8 0, .int .u8 0, .int .u8 0, .int .u8 0, .int .u8 0, .int .u8 0, .int .u8 0, .int .u8 0, .int .u8 0, .int .u8 0, .int .u8 0, .int .u8 0, .int .u8 0, .int .u8 0, .int .u8 0, .int .u8 0, .int .u8 0, .int .u8 0, .int .u8 0, .int .u8 0, .int .u8 0, .int .u8 0, .int .u8 0, .int .u8 0, .int .u8 0, .int .u8 0, .int .u8 0] w14 fun w15 =>
  J3 (⟨k22, 0, none⟩ : Addr) w15)) ∧
  (new #[.int .u32 0, .int .u32 0, .int .u64 0, .int .u64 0, .int .u8 0, .int .u8 0, .int .u8 0, .int .u8 0, .int .u8 0, .int .u8 0, .int .u8 0, .int .u8 0, .int .u8 0, .int .u8 0, .int .u8 0, .int .u8 0, .int .u8 0, .int .u8 0, .int .u8 0, .int .u8 0, .int .u8 0, .int .u8 0, .int .u8 0, .int .u8 0, .int .u8 0, .int .u8 0, .int .u8 0, .int .u8 0, .int .u8 0, .int .u8 0, .int .u8 0, .int .u8 0, .int .u8 0, .int .u8 0, .int .u8 0, .int .u8 0] 27 w3 fun k27 w16 =>
  call Try.prog 28 #[.slice p5 l5 c5] w16 fun v28 w17 =>
  asI .u64 v28 fun n29 =>
  arith .u32 n29 fun n30 =>
  call Try.prog 28 #[.slice p6 l6 c6] w17 fun v31 w18 =>
  asI .u64 v31 fun n32 =>
  call Try.prog 28 #[.slice p7 l7 c7] w18 fun v33 w19 =>
  asI .u64 v33 fun n34 =>
  stA Try.prog (⟨k27, 0, none⟩ : Addr) 36 #[.int .u32 n10, .int .u32 n30, .int .u64 n32, .int .u64 n34, .int .u8 0, .int .u8 0, .int .u8 0, .int .u8 0, .int .u8 0, .int .u8 0, .int .u8 0, .int .u8 0, .int .u8 0, .int .u8 0, .int .u8 0, .int .u8 0, .int .u8 0, .int .u8 0, .int .u8 0, .int .u8 0, .int .u8 0, .int .u8 0, .int .u8 0, .int .u8 0, .int .u8 0, .int .u8 0, .int .u8 0, .int .u8 0, .int .u8 0, .int .u8 0, .int .u8 0, .int .u8 0, .int .u8 0, .int .u8 0, .int .u8 0, .int .u8 0] w19 fun w20 =>
  J3 (⟨k27, 0, none⟩ : Addr) w20)) ∧
  (new #[.int .u32 0, .int .u32 0, .int .u64 0, .int .u64 0, .int .u8 0, .int .u8 0, .int .u8 0, .int .u8 0, .int .u8 0, .int .u8 0, .int .u8 0, .int .u8 0, .int .u8 0, .int .u8 0, .int .u8 0, .int .u8 0, .int .u8 0, .int .u8 0, .int .u8 0, .int .u8 0, .int .u8 0, .int .u8 0, .int .u8 0, .int .u8 0, .int .u8 0, .int .u8 0, .int .u8 0, .int .u8 0, .int .u8 0, .int .u8 0, .int .u8 0, .int .u8 0, .int .u8 0, .int .u8 0, .int .u8 0, .int .u8 0] 27 w1.drew fun k35 w21 =>
  call Try.prog 28 #[.slice p4 l4 c4] w21 fun v36 w22 =>
  asI .u64 v36 fun n37 =>
  arith .u32 n37 fun n38 =>
  call Try.prog 28 #[.slice p5 l5 c5] w22 fun v39 w23 =>
  asI .u64 v39 fun n40 =>
  arith .u32 n40 fun n41 =>
  call Try.prog 28 #[.slice p6 l6 c6] w23 fun v42 w24 =>
  asI .u64 v42 fun n43 =>
  call Try.prog 28 #[.slice p7 l7 c7] w24 fun v44 w25 =>
  asI .u64 v44 fun n45 =>
  stA Try.prog (⟨k35, 0, none⟩ : Addr) 36 #[.int .u32 n38, .int .u32 n41, .int .u64 n43, .int .u64 n45, .int .u8 0, .int .u8 0, .int .u8 0, .int .u8 0, .int .u8 0, .int .u8 0, .int .u8 0, .int .u8 0, .int .u8 0, .int .u8 0, .int .u8 0, .int .u8 0, .int .u8 0, .int .u8 0, .int .u8 0, .int .u8 0, .int .u8 0, .int .u8 0, .int .u8 0, .int .u8 0, .int .u8 0, .int .u8 0, .int .u8 0, .int .u8 0, .int .u8 0, .int .u8 0, .int .u8 0, .int .u8 0, .int .u8 0, .int .u8 0, .int .u8 0, .int .u8 0] w25 fun w26 =>
  J3 (⟨k35, 0, none⟩ : Addr) w26)) ∧
  ∀ (u46 : Nat → Value) (a47 : Addr) (w27 : World), J3 a47 w27 →
  ∃ I48 : Int → World → Nat → Prop, (∃ m49, I48 0 w27 m49) ∧
  ∀ (u50 : Nat → Value) (n51 : Int) (w28 : World) (m52 : Nat), I48 n51 w28 m52 →
  br (decide ((n51 : Int) < 16)) (
  arith .i64 (32 + n51) fun n53 =>
  idx x0 y0 n53 1 fun a54 =>
  ldI .u8 a54 w28 fun n55 =>
  idxA (a47.add 4) 16 n51 1 fun a56 =>
  st a56 (.int .u8 n55) w28 fun w29 =>
  arith .i64 (48 + n51) fun n57 =>
  idx x0 y0 n57 1 fun a58 =>
  ldI .u8 a58 w29 fun n59 =>
  idxA (a47.add 20) 16 n51 1 fun a60 =>
  st a60 (.int .u8 n59) w29 fun w30 =>
  arith .i64 (n51 + 1) fun n61 =>
  ∃ m62, m62 < m52 ∧ I48 n61 w30 m62) (
  ldA a47 36 w28 fun g63 =>
  call Try.prog 8 #[.agg g63] w28 fun v64 w31 =>
  asB v64 fun b65 =>
  br (!b65) (
  stA Try.prog (⟨k1, 0, none⟩ : Addr) 36 #[.int .u32 0, .int .u32 0, .int .u64 0, .int .u64 0, .int .u8 0, .int .u8 0, .int .u8 0, .int .u8 0, .int .u8 0, .int .u8 0, .int .u8 0, .int .u8 0, .int .u8 0, .int .u8 0, .int .u8 0, .int .u8 0, .int .u8 0, .int .u8 0, .int .u8 0, .int .u8 0, .int .u8 0, .int .u8 0, .int .u8 0, .int .u8 0, .int .u8 0, .int .u8 0, .int .u8 0, .int .u8 0, .int .u8 0, .int .u8 0, .int .u8 0, .int .u8 0, .int .u8 0, .int .u8 0, .int .u8 0, .int .u8 0] w31 fun w32 =>
  ldA (⟨k1, 0, none⟩ : Addr) 36 w32 fun g66 =>
  R (.tuple #[.agg g66, .int .i64 5]) w32) (
  ldA a47 36 w31 fun g67 =>
  call Try.prog 12 #[.slice none 0 0, .agg g67] w31 fun v68 w33 =>
  asS v68 fun p69 l69 c69 =>
  call Try.prog 11 #[.slice p69 l69 c69, .slice x0 y0 z0] w33 fun v70 w34 =>
  asB v70 fun b71 =>
  br (!b71) (
  stA Try.prog (⟨k1, 0, none⟩ : Addr) 36 #[.int .u32 0, .int .u32 0, .int .u64 0, .int .u64 0, .int .u8 0, .int .u8 0, .int .u8 0, .int .u8 0, .int .u8 0, .int .u8 0, .int .u8 0, .int .u8 0, .int .u8 0, .int .u8 0, .int .u8 0, .int .u8 0, .int .u8 0, .int .u8 0, .int .u8 0, .int .u8 0, .int .u8 0, .int .u8 0, .int .u8 0, .int .u8 0, .int .u8 0, .int .u8 0, .int .u8 0, .int .u8 0, .int .u8 0, .int .u8 0, .int .u8 0, .int .u8 0, .int .u8 0, .int .u8 0, .int .u8 0, .int .u8 0] w34 fun w35 =>
  ldA (⟨k1, 0, none⟩ : Addr) 36 w35 fun g72 =>
  R (.tuple #[.agg g72, .int .i64 5]) w35) (
  ldA a47 36 w34 fun g73 =>
  stA Try.prog (⟨k1, 0, none⟩ : Addr) 36 g73 w34 fun w36 =>
  ldA (⟨k1, 0, none⟩ : Addr) 36 w36 fun g74 =>
  R (.tuple #[.agg g74, .int .i64 0]) w36))))
@[irreducible] def tenonref07_Decode_ann : Ann := .seq .none (.seq .none (.meet [(4, .adr)] (.draw [[], [0], [0, 1], [0, 1, 2], [], [4], [0, 1, 2, 4, 5], [0, 1, 2, 4, 5, 6], [], [8], [0, 1, 2, 4, 5, 6, 8, 9], [], [11], [0, 1, 2, 4, 5, 6, 8, 9, 10, 11, 12], [0, 1, 2, 3, 4, 5, 6, 7, 8, 9, 10, 11, 12, 13], [], [0, 1, 2, 3, 4, 5, 6, 7, 8, 9, 10, 11, 12, 13, 14, 15]] (ol [0, 1, 4, 5, 8, 9, 11, 12] (.fork 2 (ol [3] (.fork 6 (ol [7] (.fork 10 (ol [] (.fork 13 (ol [14, 15, 16] .nil) 15 (ol [13, 14, 16] .nil))) 15 (ol [10, 13, 14, 16] .nil))) 15 (ol [6, 7, 10, 13, 14, 16] .nil))) 15 (ol [2, 3, 6, 7, 10, 13, 14, 16] .nil)))) (.seq (.seq .none (.one (.loop [(5, .int .i64)] .none))) .none)))
theorem tenonref07_Decode_call {x0 : Option Addr} {y0 z0 : Nat} {R : Value → World → Prop} {w : World} (h : tenonref07_Decode x0 y0 z0 R w) : call Try.prog 15 #[.slice x0 y0 z0] w R :=
  call_of_fnW plain mixed Try.func15 tenonref07_Decode_ann (Eq.mp (by kernel_rfl : tenonref07_Decode x0 y0 z0 R w = fnW Try.prog Try.f15 tenonref07_Decode_ann #[.slice x0 y0 z0] R w) h)

def tenonref01_Kept (x0 : Option Addr) (y0 z0 : Nat) (x1 : Option Addr) (y1 z1 : Nat) (R : Value → World → Prop) (w : World) : Prop :=
  arith .i64 ((y1 : Int) + 4) fun n1 =>
  slc x0 z0 1 0 n1 fun p2 l2 c2 =>
  ∃ I3 : Int → World → Nat → Prop, (∃ m4, I3 0 w m4) ∧
  ∀ (u5 : Nat → Value) (n6 : Int) (w1 : World) (m7 : Nat), I3 n6 w1 m7 →
  br (decide ((n6 : Int) < 4)) (
  arith .i64 ((y1 : Int) + n6) fun n8 =>
  idx p2 l2 n8 1 fun a9 =>
  ldI .u8 a9 w1 fun n10 =>
  arith .i64 (90 + n6) fun n11 =>
  arith .u8 n11 fun n12 =>
  br ((n10 : Int) != n12) (
  R (.bool false) w1) (
  arith .i64 (n6 + 1) fun n13 =>
  ∃ m14, m14 < m7 ∧ I3 n13 w1 m14)) (
  call Try.prog 11 #[.slice x0 y0 z0, .slice x1 y1 z1] w1 fun v15 w2 =>
  asB v15 fun b16 =>
  R (.bool b16) w2)
@[irreducible] def tenonref01_Kept_ann : Ann := .seq .none (.seq .none (.seq (.seq .none (.one (.loop [(6, .int .i64)] .none))) .none))
theorem tenonref01_Kept_call {x0 : Option Addr} {y0 z0 : Nat} {x1 : Option Addr} {y1 z1 : Nat} {R : Value → World → Prop} {w : World} (h : tenonref01_Kept x0 y0 z0 x1 y1 z1 R w) : call Try.prog 16 #[.slice x0 y0 z0, .slice x1 y1 z1] w R :=
  call_of_fnW plain mixed Try.func16 tenonref01_Kept_ann (Eq.mp (by kernel_rfl : tenonref01_Kept x0 y0 z0 x1 y1 z1 R w = fnW Try.prog Try.f16 tenonref01_Kept_ann #[.slice x0 y0 z0, .slice x1 y1 z1] R w) h)

def tenonref01_Pick (x0 : Int) (x1 : Int) (R : Value → World → Prop) (w : World) : Prop :=
  br (decide ((x1 : Int) < 1)) (
  R (.int .i64 0) w) (
  rem x0 x1 fun n1 =>
  br (decide ((n1 : Int) < 0)) (
  arith .i64 (n1 + x1) fun n2 =>
  R (.int .i64 n2) w) (
  R (.int .i64 n1) w))
@[irreducible] def tenonref01_Pick_ann : Ann := .none
theorem tenonref01_Pick_call {x0 : Int} {x1 : Int} {R : Value → World → Prop} {w : World} (h : tenonref01_Pick x0 x1 R w) : call Try.prog 17 #[.int .i64 x0, .int .i64 x1] w R :=
  call_of_fnW plain mixed Try.func17 tenonref01_Pick_ann (Eq.mp (by kernel_rfl : tenonref01_Pick x0 x1 R w = fnW Try.prog Try.f17 tenonref01_Pick_ann #[.int .i64 x0, .int .i64 x1] R w) h)

def objref_Less (x0 : Array Value) (x1 : Array Value) (R : Value → World → Prop) (w : World) : Prop :=
  new x0 27 w fun k1 w1 =>
  new x1 27 w1 fun k2 w2 =>
  ldI .u64 ((⟨k1, 0, none⟩ : Addr).add 2) w2.drew fun n3 =>
  ldI .u64 ((⟨k2, 0, none⟩ : Addr).add 2) w2.drew fun n4 =>
  ldI .u64 ((⟨k1, 0, none⟩ : Addr).add 3) w2.drew fun n5 =>
  ldI .u64 ((⟨k2, 0, none⟩ : Addr).add 3) w2.drew fun n6 =>
  ldA ((⟨k1, 0, none⟩ : Addr).add 4) 16 w2.drew fun g7 =>
  ldA ((⟨k2, 0, none⟩ : Addr).add 4) 16 w2.drew fun g8 =>
  ldA ((⟨k1, 0, none⟩ : Addr).add 20) 16 w2.drew fun g9 =>
  ldA ((⟨k2, 0, none⟩ : Addr).add 20) 16 w2.drew fun g10 =>
  ldI .u32 ((⟨k1, 0, none⟩ : Addr).add 0) w2.drew fun n11 =>
  ldI .u32 ((⟨k2, 0, none⟩ : Addr).add 0) w2.drew fun n12 =>
  ldI .u32 ((⟨k1, 0, none⟩ : Addr).add 1) w2.drew fun n13 =>
  ldI .u32 ((⟨k2, 0, none⟩ : Addr).add 1) w2.drew fun n14 =>
  call Try.prog 30 #[.int .u64 n3, .int .u64 n4] w2.drew fun v15 w3 =>
  asI .i64 v15 fun n16 =>
  w3.cell? ((⟨k2, 0, none⟩ : Addr).add 1) = some (.int .u32 n14) ∧
  w3.cell? ((⟨k1, 0, none⟩ : Addr).add 1) = some (.int .u32 n13) ∧
  w3.cell? ((⟨k2, 0, none⟩ : Addr).add 0) = some (.int .u32 n12) ∧
  w3.cell? ((⟨k1, 0, none⟩ : Addr).add 0) = some (.int .u32 n11) ∧
  keepS (cellsOf ((⟨k2, 0, none⟩ : Addr).add 20) g10) w3 (
  keepS (cellsOf ((⟨k1, 0, none⟩ : Addr).add 20) g9) w3 (
  keepS (cellsOf ((⟨k2, 0, none⟩ : Addr).add 4) g8) w3 (
  keepS (cellsOf ((⟨k1, 0, none⟩ : Addr).add 4) g7) w3 (
  w3.cell? ((⟨k2, 0, none⟩ : Addr).add 3) = some (.int .u64 n6) ∧
  w3.cell? ((⟨k1, 0, none⟩ : Addr).add 3) = some (.int .u64 n5) ∧
  call Try.prog 30 #[.int .u64 n5, .int .u64 n6] w3 fun v17 w4 =>
  asI .i64 v17 fun n18 =>
  w4.cell? ((⟨k2, 0, none⟩ : Addr).add 1) = some (.int .u32 n14) ∧
  w4.cell? ((⟨k1, 0, none⟩ : Addr).add 1) = some (.int .u32 n13) ∧
  w4.cell? ((⟨k2, 0, none⟩ : Addr).add 0) = some (.int .u32 n12) ∧
  w4.cell? ((⟨k1, 0, none⟩ : Addr).add 0) = some (.int .u32 n11) ∧
  keepS (cellsOf ((⟨k2, 0, none⟩ : Addr).add 20) g10) w4 (
  keepS (cellsOf ((⟨k1, 0, none⟩ : Addr).add 20) g9) w4 (
  keepS (cellsOf ((⟨k2, 0, none⟩ : Addr).add 4) g8) w4 (
  keepS (cellsOf ((⟨k1, 0, none⟩ : Addr).add 4) g7) w4 (
  call Try.prog 31 #[.agg g7, .agg g8] w4 fun v19 w5 =>
  asI .i64 v19 fun n20 =>
  w5.cell? ((⟨k2, 0, none⟩ : Addr).add 1) = some (.int .u32 n14) ∧
  w5.cell? ((⟨k1, 0, none⟩ : Addr).add 1) = some (.int .u32 n13) ∧
  w5.cell? ((⟨k2, 0, none⟩ : Addr).add 0) = some (.int .u32 n12) ∧
  w5.cell? ((⟨k1, 0, none⟩ : Addr).add 0) = some (.int .u32 n11) ∧
  keepS (cellsOf ((⟨k2, 0, none⟩ : Addr).add 20) g10) w5 (
  keepS (cellsOf ((⟨k1, 0, none⟩ : Addr).add 20) g9) w5 (
  call Try.prog 31 #[.agg g9, .agg g10] w5 fun v21 w6 =>
  asI .i64 v21 fun n22 =>
  w6.cell? ((⟨k2, 0, none⟩ : Addr).add 1) = some (.int .u32 n14) ∧
  w6.cell? ((⟨k1, 0, none⟩ : Addr).add 1) = some (.int .u32 n13) ∧
  w6.cell? ((⟨k2, 0, none⟩ : Addr).add 0) = some (.int .u32 n12) ∧
  w6.cell? ((⟨k1, 0, none⟩ : Addr).add 0) = some (.int .u32 n11) ∧
  call Try.prog 32 #[.int .u32 n11, .int .u32 n12] w6 fun v23 w7 =>
  asI .i64 v23 fun n24 =>
  w7.cell? ((⟨k2, 0, none⟩ : Addr).add 1) = some (.int .u32 n14) ∧
  w7.cell? ((⟨k1, 0, none⟩ : Addr).add 1) = some (.int .u32 n13) ∧
  call Try.prog 32 #[.int .u32 n13, .int .u32 n14] w7 fun v25 w8 =>
  asI .i64 v25 fun n26 =>
  new #[.int .i64 n16, .int .i64 n18, .int .i64 n20, .int .i64 n22, .int .i64 n24, .int .i64 n26] 3 w8 fun k27 w9 =>
  call Try.prog 29 #[.slice (some (⟨k27, 0, none⟩ : Addr)) 6 6] w9 fun v28 w10 =>
  asI .i64 v28 fun n29 =>
  R (.bool (decide ((n29 : Int) < 0))) w10))))))))))
@[irreducible] def objref_Less_ann : Ann := .seq .none (.seq (.draw [[], [0], [], [2], [0, 1, 2, 3], [], [5], [], [7], [0, 1, 2, 3, 4, 5, 6, 7, 8], [], [10], [], [12], [0, 1, 2, 3, 4, 5, 6, 7, 8, 9, 10, 11, 12, 13], [], [15], [], [17], [0, 1, 2, 3, 4, 5, 6, 7, 8, 9, 10, 11, 12, 13, 14, 15, 16, 17, 18], [], [20], [], [22], [0, 1, 2, 3, 4, 5, 6, 7, 8, 9, 10, 11, 12, 13, 14, 15, 16, 17, 18, 19, 20, 21, 22, 23], [], [25], [], [27], [0, 1, 2, 3, 4, 5, 6, 7, 8, 9, 10, 11, 12, 13, 14, 15, 16, 17, 18, 19, 20, 21, 22, 23, 24, 25, 26, 27, 28], [0, 1, 2, 3, 4, 5, 6, 7, 8, 9, 10, 11, 12, 13, 14, 15, 16, 17, 18, 19, 20, 21, 22, 23, 24, 25, 26, 27, 28, 29], [0, 1, 2, 3, 4, 5, 6, 7, 8, 9, 10, 11, 12, 13, 14, 15, 16, 17, 18, 19, 20, 21, 22, 23, 24, 25, 26, 27, 28, 29, 30], [0, 1, 2, 3, 4, 5, 6, 7, 8, 9, 10, 11, 12, 13, 14, 15, 16, 17, 18, 19, 20, 21, 22, 23, 24, 25, 26, 27, 28, 29, 30, 31], [0, 1, 2, 3, 4, 5, 6, 7, 8, 9, 10, 11, 12, 13, 14, 15, 16, 17, 18, 19, 20, 21, 22, 23, 24, 25, 26, 27, 28, 29, 30, 31, 32]] (ol [0, 1, 2, 3, 5, 6, 7, 8, 10, 11, 12, 13, 15, 16, 17, 18, 20, 21, 22, 23, 25, 26, 27, 28, 4, 9, 14, 19, 24, 29, 30, 31, 32, 33] .nil)) .none)
theorem objref_Less_call {x0 : Array Value} {x1 : Array Value} {R : Value → World → Prop} {w : World} (h : objref_Less x0 x1 R w) : call Try.prog 18 #[.agg x0, .agg x1] w R :=
  call_of_fnW plain mixed Try.func18 objref_Less_ann (Eq.mp (by kernel_rfl : objref_Less x0 x1 R w = fnW Try.prog Try.f18 objref_Less_ann #[.agg x0, .agg x1] R w) h)

def tenonref07_Less (x0 : Array Value) (x1 : Array Value) (R : Value → World → Prop) (w : World) : Prop :=
  new x0 27 w fun k1 w1 =>
  new x1 27 w1 fun k2 w2 =>
  ldI .u64 ((⟨k1, 0, none⟩ : Addr).add 2) w2 fun n3 =>
  ldI .u64 ((⟨k2, 0, none⟩ : Addr).add 2) w2 fun n4 =>
  br ((n3 : Int) != n4) (
  ldI .u64 ((⟨k1, 0, none⟩ : Addr).add 2) w2 fun n5 =>
  ldI .u64 ((⟨k2, 0, none⟩ : Addr).add 2) w2 fun n6 =>
  R (.bool (decide ((n5 : Int) < n6))) w2) (
  ldI .u64 ((⟨k1, 0, none⟩ : Addr).add 3) w2 fun n7 =>
  ldI .u64 ((⟨k2, 0, none⟩ : Addr).add 3) w2 fun n8 =>
  br ((n7 : Int) != n8) (
  ldI .u64 ((⟨k1, 0, none⟩ : Addr).add 3) w2 fun n9 =>
  ldI .u64 ((⟨k2, 0, none⟩ : Addr).add 3) w2 fun n10 =>
  R (.bool (decide ((n9 : Int) < n10))) w2) (
  ldA ((⟨k1, 0, none⟩ : Addr).add 4) 16 w2 fun g11 =>
  ldA ((⟨k2, 0, none⟩ : Addr).add 4) 16 w2 fun g12 =>
  still Try.prog (Op.equal 25 (.agg g11) (.agg g12)) fun b13 =>
  br (!b13) (
  ldA ((⟨k1, 0, none⟩ : Addr).add 4) 16 w2 fun g14 =>
  ldA ((⟨k2, 0, none⟩ : Addr).add 4) 16 w2 fun g15 =>
  call Try.prog 33 #[.agg g14, .agg g15] w2 fun v16 w3 =>
  asI .i64 v16 fun n17 =>
  R (.bool (decide ((n17 : Int) < 0))) w3) (
  ldA ((⟨k1, 0, none⟩ : Addr).add 20) 16 w2 fun g18 =>
  ldA ((⟨k2, 0, none⟩ : Addr).add 20) 16 w2 fun g19 =>
  still Try.prog (Op.equal 25 (.agg g18) (.agg g19)) fun b20 =>
  br (!b20) (
  ldA ((⟨k1, 0, none⟩ : Addr).add 20) 16 w2 fun g21 =>
  ldA ((⟨k2, 0, none⟩ : Addr).add 20) 16 w2 fun g22 =>
  call Try.prog 33 #[.agg g21, .agg g22] w2 fun v23 w4 =>
  asI .i64 v23 fun n24 =>
  R (.bool (decide ((n24 : Int) < 0))) w4) (
  ldI .u32 ((⟨k1, 0, none⟩ : Addr).add 0) w2 fun n25 =>
  ldI .u32 ((⟨k2, 0, none⟩ : Addr).add 0) w2 fun n26 =>
  br ((n25 : Int) != n26) (
  ldI .u32 ((⟨k1, 0, none⟩ : Addr).add 0) w2 fun n27 =>
  ldI .u32 ((⟨k2, 0, none⟩ : Addr).add 0) w2 fun n28 =>
  R (.bool (decide ((n27 : Int) < n28))) w2) (
  ldI .u32 ((⟨k1, 0, none⟩ : Addr).add 1) w2 fun n29 =>
  ldI .u32 ((⟨k2, 0, none⟩ : Addr).add 1) w2 fun n30 =>
  R (.bool (decide ((n29 : Int) < n30))) w2)))))
@[irreducible] def tenonref07_Less_ann : Ann := .none
theorem tenonref07_Less_call {x0 : Array Value} {x1 : Array Value} {R : Value → World → Prop} {w : World} (h : tenonref07_Less x0 x1 R w) : call Try.prog 19 #[.agg x0, .agg x1] w R :=
  call_of_fnW plain mixed Try.func19 tenonref07_Less_ann (Eq.mp (by kernel_rfl : tenonref07_Less x0 x1 R w = fnW Try.prog Try.f19 tenonref07_Less_ann #[.agg x0, .agg x1] R w) h)

def wire_NewWriter  (R : Value → World → Prop) (w : World) : Prop :=
  new #[.slice none 0 0] 67 w fun k1 w1 =>
  R (.pointer (some (⟨k1, 0, none⟩ : Addr))) w1
@[irreducible] def wire_NewWriter_ann : Ann := .none
theorem wire_NewWriter_call  {R : Value → World → Prop} {w : World} (h : wire_NewWriter  R w) : call Try.prog 20 #[] w R :=
  call_of_fnW plain mixed Try.func20 wire_NewWriter_ann (Eq.mp (by kernel_rfl : wire_NewWriter  R w = fnW Try.prog Try.f20 wire_NewWriter_ann #[] R w) h)

def wire_Writer_Num (x0 : Option Addr) (x1 : Int) (x2 : Int) (R : Value → World → Prop) (w : World) : Prop :=
  ∃ J1 : World → Prop, (
  br x0.isNone (
  R (.int .i64 1) w) (
  call Try.prog 34 #[.int .i64 x2] w fun v2 w1 =>
  asB v2 fun b3 =>
  br (!b3) (
  R (.int .i64 1) w1) (
  br (decide ((x2 : Int) < 8)) (
  arith .i64 (8 * x2) fun n4 =>
  shr .u64 x1 n4 fun n5 =>
  br ((n5 : Int) != 0) (
  R (.int .i64 1) w1) (
  J1  w1)) (
  J1  w1)))) ∧
  ∀ (u6 : Nat → Value)  (w2 : World), J1  w2 →
  nn x0 fun a7 =>
  ldS (a7.add 0) w2.drew fun p8 l8 c8 =>
  nn x0 fun a9 =>
  ldS (a9.add 0) w2.drew fun p10 l10 c10 =>
  call Try.prog 35 #[.int .i64 ((l10 : Int)), .int .i64 x2] w2.drew fun v11 w3 =>
  asI .i64 v11 fun n12 =>
  w3.cell? (a7.add 0) = some (.slice p8 l8 c8) ∧
  runsS Try.prog (Builtin.append_ #[28, 3] 28 #[.slice p8 l8 c8, .int .i64 n12]) w3 fun p13 l13 c13 w4 =>
  nn x0 fun a14 =>
  st (a14.add 0) (.slice p13 l13 c13) w4 fun w5 =>
  ∃ I15 : Int → World → Nat → Prop, (∃ m16, I15 0 w5 m16) ∧
  ∀ (u17 : Nat → Value) (n18 : Int) (w6 : World) (m19 : Nat), I15 n18 w6 m19 →
  br (decide ((n18 : Int) < x2)) (
  nn x0 fun a20 =>
  ldS (a20.add 0) w6.drew fun p21 l21 c21 =>
  arith .i64 (8 * n18) fun n22 =>
  shr .u64 x1 n22 fun n23 =>
  arith .u8 n23 fun n24 =>
  new #[.int .u8 n24] 5 w6.drew fun k25 w7 =>
  runsS Try.prog (Builtin.append_ #[28, 28] 28 #[.slice p21 l21 c21, .slice (some (⟨k25, 0, none⟩ : Addr)) 1 1]) w7 fun p26 l26 c26 w8 =>
  nn x0 fun a27 =>
  st (a27.add 0) (.slice p26 l26 c26) w8 fun w9 =>
  arith .i64 (n18 + 1) fun n28 =>
  ∃ m29, m29 < m19 ∧ I15 n28 w9 m29) (
  R (.int .i64 0) w6)
@[irreducible] def wire_Writer_Num_ann : Ann := .seq .none (.meet [] .none (.seq (.draw [[], [], [1], [1, 2], [1, 2, 3], [], [5], [5, 6], [5, 6, 7], [5, 6, 7, 8], [], [5, 6, 7, 8, 9, 10], [1, 2, 3, 4, 5, 6, 7, 8, 9, 10, 11], [0, 1, 2, 3, 4, 5, 6, 7, 8, 9, 10, 11, 12], [0, 1, 2, 3, 4, 5, 6, 7, 8, 9, 10, 11, 12, 13], [0, 1, 2, 3, 4, 5, 6, 7, 8, 9, 10, 11, 12, 13, 14]] (ol [0, 1, 2, 3, 4, 5, 6, 7, 8, 9, 10, 11, 12, 13, 14, 15] .nil)) (.seq (.seq .none (.one (.loop [(42, .int .i64)] (.seq .none (.seq .none (.seq (.one (.seq .none (.draw [[], [], [1], [1, 2], [1, 2, 3], [], [], [6], [5, 6, 7], [5, 6, 7, 8], [5, 6, 7, 8, 9], [1, 2, 3, 4, 5, 6, 7, 8, 9, 10], [0, 1, 2, 3, 4, 5, 6, 7, 8, 9, 10, 11], [0, 1, 2, 3, 4, 5, 6, 7, 8, 9, 10, 11, 12], [0, 1, 2, 3, 4, 5, 6, 7, 8, 9, 10, 11, 12, 13]] (ol [0, 1, 2, 3, 4, 5, 6, 7, 8, 9, 10, 11, 12, 13, 14] .nil)))) .none)))))) .none)))
theorem wire_Writer_Num_call {x0 : Option Addr} {x1 : Int} {x2 : Int} {R : Value → World → Prop} {w : World} (h : wire_Writer_Num x0 x1 x2 R w) : call Try.prog 21 #[.pointer x0, .int .u64 x1, .int .i64 x2] w R :=
  call_of_fnW plain mixed Try.func21 wire_Writer_Num_ann (Eq.mp (by kernel_rfl : wire_Writer_Num x0 x1 x2 R w = fnW Try.prog Try.f21 wire_Writer_Num_ann #[.pointer x0, .int .u64 x1, .int .i64 x2] R w) h)

def wire_Writer_Bytes (x0 : Option Addr) (R : Value → World → Prop) (w : World) : Prop :=
  br x0.isNone (
  R (.slice none 0 0) w) (
  nn x0 fun a1 =>
  ldS (a1.add 0) w fun p2 l2 c2 =>
  call Try.prog 36 #[.slice p2 l2 c2] w fun v3 w1 =>
  asS v3 fun p4 l4 c4 =>
  R (.slice p4 l4 c4) w1)
@[irreducible] def wire_Writer_Bytes_ann : Ann := .none
theorem wire_Writer_Bytes_call {x0 : Option Addr} {R : Value → World → Prop} {w : World} (h : wire_Writer_Bytes x0 R w) : call Try.prog 22 #[.pointer x0] w R :=
  call_of_fnW plain mixed Try.func22 wire_Writer_Bytes_ann (Eq.mp (by kernel_rfl : wire_Writer_Bytes x0 R w = fnW Try.prog Try.f22 wire_Writer_Bytes_ann #[.pointer x0] R w) h)

def tenonref05_Num (x0 : Option Addr) (y0 z0 : Nat) (x1 : Int) (x2 : Int) (R : Value → World → Prop) (w : World) : Prop :=
  runsS Try.prog (Builtin.append_ #[28, 28] 28 #[.slice none 0 0, .slice x0 y0 z0]) w fun p1 l1 c1 w1 =>
  ∃ I2 : Option Addr → Nat → Nat → World → Nat → Prop, (∃ m3, I2 p1 l1 c1 w1 m3) ∧
  ∀ (u4 : Nat → Value) (p5 : Option Addr) (l5 c5 : Nat) (w2 : World) (m6 : Nat), I2 p5 l5 c5 w2 m6 →
  rem ((l5 : Int)) x2 fun n7 =>
  br ((n7 : Int) != 0) (
  new #[.int .u8 0] 5 w2 fun k8 w3 =>
  runsS Try.prog (Builtin.append_ #[28, 28] 28 #[.slice p5 l5 c5, .slice (some (⟨k8, 0, none⟩ : Addr)) 1 1]) w3 fun p9 l9 c9 w4 =>
  ∃ m10, m10 < m6 ∧ I2 p9 l9 c9 w4 m10) (
  ∃ I11 : Int → Option Addr → Nat → Nat → Int → World → Nat → Prop, (∃ m12, I11 x1 p5 l5 c5 0 w2 m12) ∧
  ∀ (u13 : Nat → Value) (n14 : Int) (p15 : Option Addr) (l15 c15 : Nat) (n16 : Int) (w5 : World) (m17 : Nat), I11 n14 p15 l15 c15 n16 w5 m17 →
  br (decide ((n16 : Int) < x2)) (
  rem n14 256 fun n18 =>
  arith .u8 n18 fun n19 =>
  new #[.int .u8 n19] 5 w5 fun k20 w6 =>
  runsS Try.prog (Builtin.append_ #[28, 28] 28 #[.slice p15 l15 c15, .slice (some (⟨k20, 0, none⟩ : Addr)) 1 1]) w6 fun p21 l21 c21 w7 =>
  quo .u64 n14 256 fun n22 =>
  arith .i64 (n16 + 1) fun n23 =>
  ∃ m24, m24 < m17 ∧ I11 n22 p21 l21 c21 n23 w7 m24) (
  R (.slice p15 l15 c15) w5))
@[irreducible] def tenonref05_Num_ann : Ann := .seq .none (.seq .none (.seq .none (.seq (.one (.loop [(7, .slice)] .none)) (.seq (.seq .none (.one (.loop [(1, .int .u64), (7, .slice), (8, .int .i64)] .none))) .none))))
theorem tenonref05_Num_call {x0 : Option Addr} {y0 z0 : Nat} {x1 : Int} {x2 : Int} {R : Value → World → Prop} {w : World} (h : tenonref05_Num x0 y0 z0 x1 x2 R w) : call Try.prog 23 #[.slice x0 y0 z0, .int .u64 x1, .int .i64 x2] w R :=
  call_of_fnW plain mixed Try.func23 tenonref05_Num_ann (Eq.mp (by kernel_rfl : tenonref05_Num x0 y0 z0 x1 x2 R w = fnW Try.prog Try.f23 tenonref05_Num_ann #[.slice x0 y0 z0, .int .u64 x1, .int .i64 x2] R w) h)

def wire_NewReader (x0 : Option Addr) (y0 z0 : Nat) (R : Value → World → Prop) (w : World) : Prop :=
  call Try.prog 36 #[.slice x0 y0 z0] w fun v1 w1 =>
  asS v1 fun p2 l2 c2 =>
  new #[.slice p2 l2 c2, .int .i64 0] 70 w1 fun k3 w2 =>
  R (.pointer (some (⟨k3, 0, none⟩ : Addr))) w2
@[irreducible] def wire_NewReader_ann : Ann := .none
theorem wire_NewReader_call {x0 : Option Addr} {y0 z0 : Nat} {R : Value → World → Prop} {w : World} (h : wire_NewReader x0 y0 z0 R w) : call Try.prog 24 #[.slice x0 y0 z0] w R :=
  call_of_fnW plain mixed Try.func24 wire_NewReader_ann (Eq.mp (by kernel_rfl : wire_NewReader x0 y0 z0 R w = fnW Try.prog Try.f24 wire_NewReader_ann #[.slice x0 y0 z0] R w) h)

def wire_Reader_Num (x0 : Option Addr) (x1 : Int) (R : Value → World → Prop) (w : World) : Prop :=
  call Try.prog 34 #[.int .i64 x1] w fun v1 w1 =>
  asB v1 fun b2 =>
  br (!b2) (
  R (.tuple #[.int .u64 0, .int .i64 1]) w1) (
  br x0.isNone (
  R (.tuple #[.int .u64 0, .int .i64 6]) w1) (
  nn x0 fun a3 =>
  ldI .i64 (a3.add 1) w1 fun n4 =>
  call Try.prog 35 #[.int .i64 n4, .int .i64 x1] w1 fun v5 w2 =>
  asI .i64 v5 fun n6 =>
  nn x0 fun a7 =>
  ldS (a7.add 0) w2.drew fun p8 l8 c8 =>
  nn x0 fun a9 =>
  ldI .i64 (a9.add 1) w2.drew fun n10 =>
  arith .i64 ((l8 : Int) - n10) fun n11 =>
  arith .i64 (n6 + x1) fun n12 =>
  br (decide ((n11 : Int) < n12)) (
  R (.tuple #[.int .u64 0, .int .i64 6]) w2.drew) (
  nn x0 fun a13 =>
  ldS (a13.add 0) w2.drew.drew fun p14 l14 c14 =>
  nn x0 fun a15 =>
  ldI .i64 (a15.add 1) w2.drew.drew fun n16 =>
  nn x0 fun a17 =>
  ldI .i64 (a17.add 1) w2.drew.drew fun n18 =>
  arith .i64 (n18 + n6) fun n19 =>
  slc p14 c14 1 n16 n19 fun p20 l20 c20 =>
  ∃ I21 : Int → World → Nat → Prop, (∃ m22, I21 0 w2.drew.drew m22) ∧
  ∀ (u23 : Nat → Value) (n24 : Int) (w3 : World) (m25 : Nat), I21 n24 w3 m25 →
  br (decide ((n24 : Int) < (l20 : Int))) (
  idx p20 l20 n24 1 fun a26 =>
  ldI .u8 a26 w3 fun n27 =>
  br ((n27 : Int) != 0) (
  R (.tuple #[.int .u64 0, .int .i64 5]) w3) (
  arith .i64 (n24 + 1) fun n28 =>
  ∃ m29, m29 < m25 ∧ I21 n28 w3 m29)) (
  ∃ I30 : Int → Int → World → Nat → Prop, (∃ m31, I30 0 0 w3 m31) ∧
  ∀ (u32 : Nat → Value) (n33 : Int) (n34 : Int) (w4 : World) (m35 : Nat), I30 n33 n34 w4 m35 →
  br (decide ((n34 : Int) < x1)) (
  nn x0 fun a36 =>
  ldS (a36.add 0) w4.drew fun p37 l37 c37 =>
  nn x0 fun a38 =>
  ldI .i64 (a38.add 1) w4.drew fun n39 =>
  arith .i64 (n39 + n6) fun n40 =>
  arith .i64 (n40 + n34) fun n41 =>
  idx p37 l37 n41 1 fun a42 =>
  ldI .u8 a42 w4.drew fun n43 =>
  arith .u64 n43 fun n44 =>
  arith .i64 (8 * n34) fun n45 =>
  shl .u64 n44 n45 fun n46 =>
  arith .i64 (n34 + 1) fun n47 =>
  ∃ m48, m48 < m35 ∧ I30 (bitw .or .u64 n33 n46) n47 w4.drew m48) (
  nn x0 fun a49 =>
  ldI .i64 (a49.add 1) w4 fun n50 =>
  arith .i64 (n6 + x1) fun n51 =>
  arith .i64 (n50 + n51) fun n52 =>
  nn x0 fun a53 =>
  st (a53.add 1) (.int .i64 n52) w4 fun w5 =>
  R (.tuple #[.int .u64 n33, .int .i64 0]) w5)))))
@[irreducible] def wire_Reader_Num_ann : Ann := .seq .none (.seq .none (.seq .none (.seq .none (.seq (.seq (.draw [[], [0], [0, 1], [0, 1, 2], [0, 1, 2, 3], [], [5], [5, 6], [5, 6, 7], [0, 1, 2, 3, 4, 5, 6, 7, 8], [], [], [10, 11], [0, 1, 2, 3, 4, 5, 6, 7, 8, 9, 10, 11, 12]] (ol [0, 1, 2, 3, 4, 5, 6, 7, 8, 9, 10, 11, 12, 13] .nil)) .none) (.seq (.seq (.draw [[], [0], [0, 1], [0, 1, 2], [], [4], [4, 5], [4, 5, 6], [], [8], [8, 9], [8, 9, 10], [], [8, 9, 10, 11, 12], [0, 1, 2, 3, 4, 5, 6, 7, 8, 9, 10, 11, 12, 13], [0, 1, 2, 3, 4, 5, 6, 7, 8, 9, 10, 11, 12, 13, 14], []] (ol [0, 1, 2, 3, 4, 5, 6, 7, 8, 9, 10, 11, 12, 13, 14, 15, 16] .nil)) (.one (.loop [(52, .int .i64)] .none))) (.seq .none (.seq (.seq .none (.one (.loop [(9, .int .u64), (60, .int .i64)] (.seq .none (.seq .none (.seq (.one (.seq .none (.draw [[], [], [1], [1, 2], [1, 2, 3], [], [5], [5, 6], [5, 6, 7], [], [5, 6, 7, 8, 9], [], [5, 6, 7, 8, 9, 10, 11], [1, 2, 3, 4, 5, 6, 7, 8, 9, 10, 11, 12], [1, 2, 3, 4, 5, 6, 7, 8, 9, 10, 11, 12, 13], [1, 2, 3, 4, 5, 6, 7, 8, 9, 10, 11, 12, 13, 14], [], [16], [1, 2, 3, 4, 5, 6, 7, 8, 9, 10, 11, 12, 13, 14, 15, 16, 17], [0, 1, 2, 3, 4, 5, 6, 7, 8, 9, 10, 11, 12, 13, 14, 15, 16, 17, 18], [0, 1, 2, 3, 4, 5, 6, 7, 8, 9, 10, 11, 12, 13, 14, 15, 16, 17, 18, 19]] (ol [0, 1, 2, 3, 4, 5, 6, 7, 8, 9, 10, 11, 12, 13, 14, 15, 16, 17, 18, 19, 20] .nil)))) .none)))))) .none)))))))
theorem wire_Reader_Num_call {x0 : Option Addr} {x1 : Int} {R : Value → World → Prop} {w : World} (h : wire_Reader_Num x0 x1 R w) : call Try.prog 25 #[.pointer x0, .int .i64 x1] w R :=
  call_of_fnW plain mixed Try.func25 wire_Reader_Num_ann (Eq.mp (by kernel_rfl : wire_Reader_Num x0 x1 R w = fnW Try.prog Try.f25 wire_Reader_Num_ann #[.pointer x0, .int .i64 x1] R w) h)

def objref_name (x0 : Option Addr) (R : Value → World → Prop) (w : World) : Prop :=
  new #[.int .u8 0, .int .u8 0, .int .u8 0, .int .u8 0, .int .u8 0, .int .u8 0, .int .u8 0, .int .u8 0, .int .u8 0, .int .u8 0, .int .u8 0, .int .u8 0, .int .u8 0, .int .u8 0, .int .u8 0, .int .u8 0] 25 w fun k1 w1 =>
  new #[.int .u8 0, .int .u8 0, .int .u8 0, .int .u8 0, .int .u8 0, .int .u8 0, .int .u8 0, .int .u8 0, .int .u8 0, .int .u8 0, .int .u8 0, .int .u8 0, .int .u8 0, .int .u8 0, .int .u8 0, .int .u8 0] 25 w1 fun k2 w2 =>
  ∃ I3 : Int → World → Nat → Prop, (∃ m4, I3 0 w2 m4) ∧
  ∀ (u5 : Nat → Value) (n6 : Int) (w3 : World) (m7 : Nat), I3 n6 w3 m7 →
  br (decide ((n6 : Int) < 16)) (
  call Try.prog 25 #[.pointer x0, .int .i64 1] w3 fun v8 w4 =>
  ∃ (n9 : Int) (n10 : Int),
  v8 = .tuple #[.int .u64 n9, .int .i64 n10] ∧
  arith .u8 n9 fun n11 =>
  idxA (⟨k2, 0, none⟩ : Addr) 16 n6 1 fun a12 =>
  st a12 (.int .u8 n11) w4 fun w5 =>
  arith .i64 (n6 + 1) fun n13 =>
  ∃ m14, m14 < m7 ∧ I3 n13 w5 m14) (
  ldA (⟨k2, 0, none⟩ : Addr) 16 w3 fun g15 =>
  stA Try.prog (⟨k1, 0, none⟩ : Addr) 16 g15 w3 fun w6 =>
  ldA (⟨k1, 0, none⟩ : Addr) 16 w6 fun g16 =>
  R (.agg g16) w6)
@[irreducible] def objref_name_ann : Ann := .seq .none (.seq .none (.seq (.seq .none (.one (.loop [(7, .int .i64)] .none))) .none))
theorem objref_name_call {x0 : Option Addr} {R : Value → World → Prop} {w : World} (h : objref_name x0 R w) : call Try.prog 26 #[.pointer x0] w R :=
  call_of_fnW plain mixed Try.func26 objref_name_ann (Eq.mp (by kernel_rfl : objref_name x0 R w = fnW Try.prog Try.f26 objref_name_ann #[.pointer x0] R w) h)

def wire_Reader_End (x0 : Option Addr) (R : Value → World → Prop) (w : World) : Prop :=
  call Try.prog 37 #[.pointer x0] w fun v1 w1 =>
  asI .i64 v1 fun n2 =>
  br (decide ((n2 : Int) > 0)) (
  R (.int .i64 5) w1) (
  R (.int .i64 0) w1)
@[irreducible] def wire_Reader_End_ann : Ann := .none
theorem wire_Reader_End_call {x0 : Option Addr} {R : Value → World → Prop} {w : World} (h : wire_Reader_End x0 R w) : call Try.prog 27 #[.pointer x0] w R :=
  call_of_fnW plain mixed Try.func27 wire_Reader_End_ann (Eq.mp (by kernel_rfl : wire_Reader_End x0 R w = fnW Try.prog Try.f27 wire_Reader_End_ann #[.pointer x0] R w) h)

def tenonref07_num (x0 : Option Addr) (y0 z0 : Nat) (R : Value → World → Prop) (w : World) : Prop :=
  arith .i64 ((y0 : Int) - 1) fun n1 =>
  ∃ I2 : Int → Int → World → Nat → Prop, (∃ m3, I2 0 n1 w m3) ∧
  ∀ (u4 : Nat → Value) (n5 : Int) (n6 : Int) (w1 : World) (m7 : Nat), I2 n5 n6 w1 m7 →
  br (decide ((n6 : Int) ≥ 0)) (
  arith .u64 (n5 * 256) fun n8 =>
  idx x0 y0 n6 1 fun a9 =>
  ldI .u8 a9 w1 fun n10 =>
  arith .u64 n10 fun n11 =>
  arith .u64 (n8 + n11) fun n12 =>
  arith .i64 (n6 - 1) fun n13 =>
  ∃ m14, m14 < m7 ∧ I2 n12 n13 w1 m14) (
  R (.int .u64 n5) w1)
@[irreducible] def tenonref07_num_ann : Ann := .seq .none (.seq .none (.seq (.seq .none (.one (.loop [(3, .int .u64), (4, .int .i64)] .none))) .none))
theorem tenonref07_num_call {x0 : Option Addr} {y0 z0 : Nat} {R : Value → World → Prop} {w : World} (h : tenonref07_num x0 y0 z0 R w) : call Try.prog 28 #[.slice x0 y0 z0] w R :=
  call_of_fnW plain mixed Try.func28 tenonref07_num_ann (Eq.mp (by kernel_rfl : tenonref07_num x0 y0 z0 R w = fnW Try.prog Try.f28 tenonref07_num_ann #[.slice x0 y0 z0] R w) h)

def cmp_Or (x0 : Option Addr) (y0 z0 : Nat) (R : Value → World → Prop) (w : World) : Prop :=
  ∃ I1 : Int → World → Nat → Prop, (∃ m2, I1 0 w m2) ∧
  ∀ (u3 : Nat → Value) (n4 : Int) (w1 : World) (m5 : Nat), I1 n4 w1 m5 →
  br (decide ((n4 : Int) < (y0 : Int))) (
  idx x0 y0 n4 1 fun a6 =>
  ldI .i64 a6 w1 fun n7 =>
  br ((n7 : Int) != 0) (
  R (.int .i64 n7) w1) (
  arith .i64 (n4 + 1) fun n8 =>
  ∃ m9, m9 < m5 ∧ I1 n8 w1 m9)) (
  R (.int .i64 0) w1)
@[irreducible] def cmp_Or_ann : Ann := .seq .none (.seq .none (.seq (.seq .none (.one (.loop [(8, .int .i64)] .none))) .none))
theorem cmp_Or_call {x0 : Option Addr} {y0 z0 : Nat} {R : Value → World → Prop} {w : World} (h : cmp_Or x0 y0 z0 R w) : call Try.prog 29 #[.slice x0 y0 z0] w R :=
  call_of_fnW plain mixed Try.func29 cmp_Or_ann (Eq.mp (by kernel_rfl : cmp_Or x0 y0 z0 R w = fnW Try.prog Try.f29 cmp_Or_ann #[.slice x0 y0 z0] R w) h)

def cmp_Compare (x0 : Int) (x1 : Int) (R : Value → World → Prop) (w : World) : Prop :=
  call Try.prog 38 #[.int .u64 x0] w fun v1 w1 =>
  asB v1 fun b2 =>
  call Try.prog 38 #[.int .u64 x1] w1 fun v3 w2 =>
  asB v3 fun b4 =>
  br b2 (
  br b4 (
  R (.int .i64 0) w2) (
  R (.int .i64 (-1)) w2)) (
  br b4 (
  R (.int .i64 1) w2) (
  br (decide ((x0 : Int) < x1)) (
  R (.int .i64 (-1)) w2) (
  br (decide ((x0 : Int) > x1)) (
  R (.int .i64 1) w2) (
  R (.int .i64 0) w2))))
@[irreducible] def cmp_Compare_ann : Ann := .none
theorem cmp_Compare_call {x0 : Int} {x1 : Int} {R : Value → World → Prop} {w : World} (h : cmp_Compare x0 x1 R w) : call Try.prog 30 #[.int .u64 x0, .int .u64 x1] w R :=
  call_of_fnW plain mixed Try.func30 cmp_Compare_ann (Eq.mp (by kernel_rfl : cmp_Compare x0 x1 R w = fnW Try.prog Try.f30 cmp_Compare_ann #[.int .u64 x0, .int .u64 x1] R w) h)

def guid_Compare (x0 : Array Value) (x1 : Array Value) (R : Value → World → Prop) (w : World) : Prop :=
  new x0 25 w fun k1 w1 =>
  new x1 25 w1 fun k2 w2 =>
  slc (some (⟨k1, 0, none⟩ : Addr)) 16 1 0 ((16 : Int)) fun p3 l3 c3 =>
  slc (some (⟨k2, 0, none⟩ : Addr)) 16 1 0 ((16 : Int)) fun p4 l4 c4 =>
  call Try.prog 39 #[.slice p3 l3 c3, .slice p4 l4 c4] w2.drew fun v5 w3 =>
  asI .i64 v5 fun n6 =>
  R (.int .i64 n6) w3
@[irreducible] def guid_Compare_ann : Ann := .seq .none (.seq (.draw [[], [], [0, 1], [0, 1, 2]] (ol [0, 1, 2, 3] .nil)) .none)
theorem guid_Compare_call {x0 : Array Value} {x1 : Array Value} {R : Value → World → Prop} {w : World} (h : guid_Compare x0 x1 R w) : call Try.prog 31 #[.agg x0, .agg x1] w R :=
  call_of_fnW plain mixed Try.func31 guid_Compare_ann (Eq.mp (by kernel_rfl : guid_Compare x0 x1 R w = fnW Try.prog Try.f31 guid_Compare_ann #[.agg x0, .agg x1] R w) h)

def cmp_Compare_1 (x0 : Int) (x1 : Int) (R : Value → World → Prop) (w : World) : Prop :=
  call Try.prog 40 #[.int .u32 x0] w fun v1 w1 =>
  asB v1 fun b2 =>
  call Try.prog 40 #[.int .u32 x1] w1 fun v3 w2 =>
  asB v3 fun b4 =>
  br b2 (
  br b4 (
  R (.int .i64 0) w2) (
  R (.int .i64 (-1)) w2)) (
  br b4 (
  R (.int .i64 1) w2) (
  br (decide ((x0 : Int) < x1)) (
  R (.int .i64 (-1)) w2) (
  br (decide ((x0 : Int) > x1)) (
  R (.int .i64 1) w2) (
  R (.int .i64 0) w2))))
@[irreducible] def cmp_Compare_1_ann : Ann := .none
theorem cmp_Compare_1_call {x0 : Int} {x1 : Int} {R : Value → World → Prop} {w : World} (h : cmp_Compare_1 x0 x1 R w) : call Try.prog 32 #[.int .u32 x0, .int .u32 x1] w R :=
  call_of_fnW plain mixed Try.func32 cmp_Compare_1_ann (Eq.mp (by kernel_rfl : cmp_Compare_1 x0 x1 R w = fnW Try.prog Try.f32 cmp_Compare_1_ann #[.int .u32 x0, .int .u32 x1] R w) h)

def tenonref01_Compare (x0 : Array Value) (x1 : Array Value) (R : Value → World → Prop) (w : World) : Prop :=
  new x0 25 w fun k1 w1 =>
  new x1 25 w1 fun k2 w2 =>
  ∃ I3 : Int → World → Nat → Prop, (∃ m4, I3 0 w2 m4) ∧
  ∀ (u5 : Nat → Value) (n6 : Int) (w3 : World) (m7 : Nat), I3 n6 w3 m7 →
  br (decide ((n6 : Int) < 16)) (
  idxA (⟨k1, 0, none⟩ : Addr) 16 n6 1 fun a8 =>
  ldI .u8 a8 w3.drew fun n9 =>
  idxA (⟨k2, 0, none⟩ : Addr) 16 n6 1 fun a10 =>
  ldI .u8 a10 w3.drew fun n11 =>
  br (decide ((n9 : Int) < n11)) (
  R (.int .i64 (-1)) w3.drew) (
  idxA (⟨k1, 0, none⟩ : Addr) 16 n6 1 fun a12 =>
  ldI .u8 a12 w3.drew.drew fun n13 =>
  idxA (⟨k2, 0, none⟩ : Addr) 16 n6 1 fun a14 =>
  ldI .u8 a14 w3.drew.drew fun n15 =>
  br (decide ((n13 : Int) > n15)) (
  R (.int .i64 1) w3.drew.drew) (
  arith .i64 (n6 + 1) fun n16 =>
  ∃ m17, m17 < m7 ∧ I3 n16 w3.drew.drew m17))) (
  R (.int .i64 0) w3)
@[irreducible] def tenonref01_Compare_ann : Ann := .seq .none (.seq (.seq .none (.one (.loop [(5, .int .i64)] (.seq .none (.seq (.one (.seq (.seq (.draw [[], [0], [0, 1], [], [3], [3, 4], [0, 1, 2, 3, 4, 5]] (ol [0, 1, 2, 3, 4, 5, 6] .nil)) .none) (.seq (.draw [[], [0], [0, 1], [], [3], [3, 4], [0, 1, 2, 3, 4, 5]] (ol [0, 1, 2, 3, 4, 5, 6] .nil)) .none))) .none))))) .none)
theorem tenonref01_Compare_call {x0 : Array Value} {x1 : Array Value} {R : Value → World → Prop} {w : World} (h : tenonref01_Compare x0 x1 R w) : call Try.prog 33 #[.agg x0, .agg x1] w R :=
  call_of_fnW plain mixed Try.func33 tenonref01_Compare_ann (Eq.mp (by kernel_rfl : tenonref01_Compare x0 x1 R w = fnW Try.prog Try.f33 tenonref01_Compare_ann #[.agg x0, .agg x1] R w) h)

def wire_fits (x0 : Int) (R : Value → World → Prop) (w : World) : Prop :=
  br ((x0 : Int) == 1) (
  R (.bool true) w) (
  br ((x0 : Int) == 2) (
  R (.bool true) w) (
  br ((x0 : Int) == 4) (
  R (.bool true) w) (
  R (.bool ((x0 : Int) == 8)) w)))
@[irreducible] def wire_fits_ann : Ann := .none
theorem wire_fits_call {x0 : Int} {R : Value → World → Prop} {w : World} (h : wire_fits x0 R w) : call Try.prog 34 #[.int .i64 x0] w R :=
  call_of_fnW plain mixed Try.func34 wire_fits_ann (Eq.mp (by kernel_rfl : wire_fits x0 R w = fnW Try.prog Try.f34 wire_fits_ann #[.int .i64 x0] R w) h)

def wire_gap (x0 : Int) (x1 : Int) (R : Value → World → Prop) (w : World) : Prop :=
  rem x0 x1 fun n1 =>
  arith .i64 (x1 - n1) fun n2 =>
  rem n2 x1 fun n3 =>
  R (.int .i64 n3) w
@[irreducible] def wire_gap_ann : Ann := .none
theorem wire_gap_call {x0 : Int} {x1 : Int} {R : Value → World → Prop} {w : World} (h : wire_gap x0 x1 R w) : call Try.prog 35 #[.int .i64 x0, .int .i64 x1] w R :=
  call_of_fnW plain mixed Try.func35 wire_gap_ann (Eq.mp (by kernel_rfl : wire_gap x0 x1 R w = fnW Try.prog Try.f35 wire_gap_ann #[.int .i64 x0, .int .i64 x1] R w) h)

def bytes_Clone (x0 : Option Addr) (y0 z0 : Nat) (R : Value → World → Prop) (w : World) : Prop :=
  br x0.isNone (
  R (.slice none 0 0) w) (
  new #[] 5 w fun k1 w1 =>
  runsS Try.prog (Builtin.append_ #[28, 28] 28 #[.slice (some (⟨k1, 0, none⟩ : Addr)) 0 0, .slice x0 y0 z0]) w1 fun p2 l2 c2 w2 =>
  R (.slice p2 l2 c2) w2)
@[irreducible] def bytes_Clone_ann : Ann := .none
theorem bytes_Clone_call {x0 : Option Addr} {y0 z0 : Nat} {R : Value → World → Prop} {w : World} (h : bytes_Clone x0 y0 z0 R w) : call Try.prog 36 #[.slice x0 y0 z0] w R :=
  call_of_fnW plain mixed Try.func36 bytes_Clone_ann (Eq.mp (by kernel_rfl : bytes_Clone x0 y0 z0 R w = fnW Try.prog Try.f36 bytes_Clone_ann #[.slice x0 y0 z0] R w) h)

def wire_Reader_Left (x0 : Option Addr) (R : Value → World → Prop) (w : World) : Prop :=
  br x0.isNone (
  R (.int .i64 0) w) (
  nn x0 fun a1 =>
  ldS (a1.add 0) w.drew fun p2 l2 c2 =>
  nn x0 fun a3 =>
  ldI .i64 (a3.add 1) w.drew fun n4 =>
  arith .i64 ((l2 : Int) - n4) fun n5 =>
  R (.int .i64 n5) w.drew)
@[irreducible] def wire_Reader_Left_ann : Ann := .seq .none (.seq .none (.seq (.draw [[], [0], [0, 1], [0, 1, 2], [0, 1, 2, 3], [], [5], [5, 6], [5, 6, 7], [0, 1, 2, 3, 4, 5, 6, 7, 8], [0, 1, 2, 3, 4, 5, 6, 7, 8, 9]] (ol [0, 1, 2, 3, 4, 5, 6, 7, 8, 9, 10] .nil)) .none))
theorem wire_Reader_Left_call {x0 : Option Addr} {R : Value → World → Prop} {w : World} (h : wire_Reader_Left x0 R w) : call Try.prog 37 #[.pointer x0] w R :=
  call_of_fnW plain mixed Try.func37 wire_Reader_Left_ann (Eq.mp (by kernel_rfl : wire_Reader_Left x0 R w = fnW Try.prog Try.f37 wire_Reader_Left_ann #[.pointer x0] R w) h)

def cmp_isNaN (x0 : Int) (R : Value → World → Prop) (w : World) : Prop :=
  R (.bool ((x0 : Int) != x0)) w
@[irreducible] def cmp_isNaN_ann : Ann := .none
theorem cmp_isNaN_call {x0 : Int} {R : Value → World → Prop} {w : World} (h : cmp_isNaN x0 R w) : call Try.prog 38 #[.int .u64 x0] w R :=
  call_of_fnW plain mixed Try.func38 cmp_isNaN_ann (Eq.mp (by kernel_rfl : cmp_isNaN x0 R w = fnW Try.prog Try.f38 cmp_isNaN_ann #[.int .u64 x0] R w) h)

def bytes_Compare (x0 : Option Addr) (y0 z0 : Nat) (x1 : Option Addr) (y1 z1 : Nat) (R : Value → World → Prop) (w : World) : Prop :=
  extW Try.prog 41 #[.slice x0 y0 z0, .slice x1 y1 z1] w fun v1 w1 =>
  asI .i64 v1 fun n2 =>
  R (.int .i64 n2) w1
@[irreducible] def bytes_Compare_ann : Ann := .none
theorem bytes_Compare_call {x0 : Option Addr} {y0 z0 : Nat} {x1 : Option Addr} {y1 z1 : Nat} {R : Value → World → Prop} {w : World} (h : bytes_Compare x0 y0 z0 x1 y1 z1 R w) : call Try.prog 39 #[.slice x0 y0 z0, .slice x1 y1 z1] w R :=
  call_of_fnW plain mixed Try.func39 bytes_Compare_ann (Eq.mp (by kernel_rfl : bytes_Compare x0 y0 z0 x1 y1 z1 R w = fnW Try.prog Try.f39 bytes_Compare_ann #[.slice x0 y0 z0, .slice x1 y1 z1] R w) h)

def cmp_isNaN_1 (x0 : Int) (R : Value → World → Prop) (w : World) : Prop :=
  R (.bool ((x0 : Int) != x0)) w
@[irreducible] def cmp_isNaN_1_ann : Ann := .none
theorem cmp_isNaN_1_call {x0 : Int} {R : Value → World → Prop} {w : World} (h : cmp_isNaN_1 x0 R w) : call Try.prog 40 #[.int .u32 x0] w R :=
  call_of_fnW plain mixed Try.func40 cmp_isNaN_1_ann (Eq.mp (by kernel_rfl : cmp_isNaN_1 x0 R w = fnW Try.prog Try.f40 cmp_isNaN_1_ann #[.int .u32 x0] R w) h)

end Go.Proofs.Ytgkdlglpkfoeeaa
