/- The shallow forms of the functions of the translation, printed by a program of this repository, each proved sound. No conditions. -/
import Derived.Test.YtkkfhceejhabeaaChecked
import Derived.Test.YtkkfhceejhabeaaSp5
import Derived.Eval
set_option linter.unusedVariables false
namespace Go.Proofs.Ytkkfhceejhabeaa
open Go.Sp
theorem plain : Plain Try.prog := by
  have h : (Try.prog.funcs.toList.all fun fn => !(fn.name == "runtime.NumGoroutine")) = true := by kernel_rfl
  intro f fn hf
  have := List.all_eq_true.1 h fn (by simpa using Array.mem_of_getElem? hf)
  simpa using this
theorem mixed : Try.prog.follows .mixedOrders = true := Checked.mixed Try.checked
abbrev T_api_Guid : Nat := 24
abbrev T_api_Errno : Nat := 25
abbrev T_api_Packet : Nat := 28
abbrev T_api_Objref : Nat := 55
abbrev T_wire_Writer : Nat := 75
abbrev T_wire_Reader : Nat := 81
abbrev T_int64 : Nat := 2
abbrev T_int : Nat := 3
abbrev T_bool : Nat := 4
abbrev T_uint8 : Nat := 5
abbrev T_string : Nat := 9
abbrev T_uintptr : Nat := 12
abbrev T_int32 : Nat := 21
abbrev T_uint64 : Nat := 22
abbrev T_sl_api_Objref : Nat := 26
abbrev T_sl_uint8 : Nat := 30
abbrev T_uint32 : Nat := 53
abbrev T_ptr_uint8 : Nat := 97
abbrev fn_tenonlaw08_PacketEncodes : Nat := 3
abbrev fn_tenonlaw08_PacketDecodes : Nat := 4
abbrev fn_tenonlaw08_PacketBack : Nat := 5
abbrev fn_tenonlaw08_PacketSame : Nat := 6
abbrev fn_tenonlaw08_awake : Nat := 7
abbrev fn_packet_Encode : Nat := 8
abbrev fn_tenonref08_Right : Nat := 9
abbrev fn_packet_Check : Nat := 10
abbrev fn_tenonref01_SameBytes : Nat := 11
abbrev fn_tenonref08_Encode : Nat := 12
abbrev fn_tenonref01_Lent : Nat := 13
abbrev fn_packet_Decode : Nat := 14
abbrev fn_tenonref08_Decode : Nat := 15
abbrev fn_tenonref08_Same : Nat := 16
abbrev fn_tenonref01_Kept : Nat := 17
abbrev fn_tenonref01_Pick : Nat := 18
abbrev fn_tenonref01_Copy : Nat := 19
abbrev fn_packet_Same : Nat := 20
abbrev fn_wire_NewWriter : Nat := 21
abbrev fn_wire_Writer_Num : Nat := 22
abbrev fn_packet_row : Nat := 23
abbrev fn_wire_Writer_Bytes : Nat := 24
abbrev fn_objref_Encode : Nat := 25
abbrev fn_tenonref07_Right : Nat := 26
abbrev fn_packet_home : Nat := 27
abbrev fn_packet_right : Nat := 28
abbrev fn_tenonref05_Num : Nat := 29
abbrev fn_tenonref07_Encode : Nat := 30
abbrev fn_wire_NewReader : Nat := 31
abbrev fn_packet_Decode_1 : Nat := 32
abbrev fn_wire_Reader_Num : Nat := 33
abbrev fn_objref_Decode : Nat := 34
abbrev fn_wire_Reader_Left : Nat := 35
abbrev fn_bytes_Equal : Nat := 36
abbrev fn_tenonref08_num : Nat := 37
abbrev fn_tenonref08_guid : Nat := 38
abbrev fn_tenonref07_Decode : Nat := 39
abbrev fn_slices_Equal : Nat := 40
abbrev fn_wire_fits : Nat := 41
abbrev fn_wire_gap : Nat := 42
abbrev fn_bytes_Clone : Nat := 43
abbrev fn_objref_Check : Nat := 44
abbrev fn_packet_bare : Nat := 45
abbrev fn_objref_name : Nat := 46
abbrev fn_wire_Reader_End : Nat := 47
abbrev fn_tenonref05_Read : Nat := 48
abbrev fn_tenonref07_num : Nat := 49
abbrev fn_tenonref05_Fits : Nat := 50

def tenonlaw08_PacketEncodes (x0 : Array Value) (R : Value → World → Prop) (w : World) : Prop :=
  new x0 28 w fun k1 w1 =>
  ldS ((⟨k1, 0, none⟩ : Addr).add 24) w1 fun p2 l2 c2 =>
  br (decide ((l2 : Int) > 10)) (
  call Try.prog 7 #[] w1 fun v3 w2 =>
  asB v3 fun b4 =>
  R (.bool b4) w2) (
  ldA (⟨k1, 0, none⟩ : Addr) 25 w1 fun g5 =>
  call Try.prog 8 #[.agg g5] w1 fun v6 w3 =>
  ∃ (p7 : Option Addr) (l7 c7 : Nat) (n8 : Int),
  v6 = .tuple #[.slice p7 l7 c7, .int .i64 n8] ∧
  ldA (⟨k1, 0, none⟩ : Addr) 25 w3 fun g9 =>
  call Try.prog 9 #[.agg g9] w3 fun v10 w4 =>
  asB v10 fun b11 =>
  br (!b11) (
  br ((n8 : Int) == 5) (
  ldA (⟨k1, 0, none⟩ : Addr) 25 w4 fun g12 =>
  call Try.prog 10 #[.agg g12] w4 fun v13 w5 =>
  asI .i64 v13 fun n14 =>
  br ((n14 : Int) == 5) (
  br ((l7 : Int) == 0) (
  call Try.prog 7 #[] w5 fun v15 w6 =>
  asB v15 fun b16 =>
  R (.bool b16) w6) (
  R (.bool false) w5)) (
  R (.bool false) w5)) (
  R (.bool false) w4)) (
  br ((n8 : Int) == 0) (
  ldA (⟨k1, 0, none⟩ : Addr) 25 w4 fun g17 =>
  call Try.prog 10 #[.agg g17] w4 fun v18 w7 =>
  asI .i64 v18 fun n19 =>
  br ((n19 : Int) == 0) (
  ldA (⟨k1, 0, none⟩ : Addr) 25 w7 fun g20 =>
  call Try.prog 12 #[.agg g20] w7 fun v21 w8 =>
  asS v21 fun p22 l22 c22 =>
  call Try.prog 11 #[.slice p7 l7 c7, .slice p22 l22 c22] w8 fun v23 w9 =>
  asB v23 fun b24 =>
  br b24 (
  call Try.prog 7 #[] w9 fun v25 w10 =>
  asB v25 fun b26 =>
  R (.bool b26) w10) (
  R (.bool false) w9)) (
  R (.bool false) w7)) (
  R (.bool false) w4)))
@[irreducible] def tenonlaw08_PacketEncodes_ann : Ann := .none
theorem tenonlaw08_PacketEncodes_call {x0 : Array Value} {R : Value → World → Prop} {w : World} (h : tenonlaw08_PacketEncodes x0 R w) : call Try.prog 3 #[.agg x0] w R :=
  call_of_fnW plain mixed Try.func3 tenonlaw08_PacketEncodes_ann (Eq.mp (by kernel_rfl : tenonlaw08_PacketEncodes x0 R w = fnW Try.prog Try.f3 tenonlaw08_PacketEncodes_ann #[.agg x0] R w) h)

def tenonlaw08_PacketDecodes (x0 : Option Addr) (y0 z0 : Nat) (R : Value → World → Prop) (w : World) : Prop :=
  call Try.prog 13 #[.slice x0 y0 z0] w fun v1 w1 =>
  asS v1 fun p2 l2 c2 =>
  call Try.prog 14 #[.slice p2 l2 c2] w1 fun v3 w2 =>
  ∃ (g4 : Array Value) (n5 : Int),
  v3 = .tuple #[.agg g4, .int .i64 n5] ∧
  new #[.int .i64 0, .int .i64 0, .int .i64 0, .int .u64 0, .int .u64 0, .int .u8 0, .int .u8 0, .int .u8 0, .int .u8 0, .int .u8 0, .int .u8 0, .int .u8 0, .int .u8 0, .int .u8 0, .int .u8 0, .int .u8 0, .int .u8 0, .int .u8 0, .int .u8 0, .int .u8 0, .int .u8 0, .int .i64 0, .int .i64 0, .int .i64 0, .slice none 0 0] 28 w2 fun k6 w3 =>
  stA Try.prog (⟨k6, 0, none⟩ : Addr) 25 g4 w3 fun w4 =>
  call Try.prog 15 #[.slice x0 y0 z0] w4 fun v7 w5 =>
  ∃ (g8 : Array Value) (b9 : Bool),
  v7 = .tuple #[.agg g8, .bool b9] ∧
  new #[.int .i64 0, .int .i64 0, .int .i64 0, .int .u64 0, .int .u64 0, .int .u8 0, .int .u8 0, .int .u8 0, .int .u8 0, .int .u8 0, .int .u8 0, .int .u8 0, .int .u8 0, .int .u8 0, .int .u8 0, .int .u8 0, .int .u8 0, .int .u8 0, .int .u8 0, .int .u8 0, .int .u8 0, .int .i64 0, .int .i64 0, .int .i64 0, .slice none 0 0] 28 w5 fun k10 w6 =>
  stA Try.prog (⟨k10, 0, none⟩ : Addr) 25 g8 w6 fun w7 =>
  ldA (⟨k6, 0, none⟩ : Addr) 25 w7 fun g11 =>
  ldA (⟨k10, 0, none⟩ : Addr) 25 w7 fun g12 =>
  call Try.prog 16 #[.agg g11, .agg g12] w7 fun v13 w8 =>
  asB v13 fun b14 =>
  br b14 (
  br (((n5 : Int) == 0) == b9) (
  br ((n5 : Int) == 0) (
  call Try.prog 17 #[.slice p2 l2 c2, .slice x0 y0 z0] w8 fun v15 w9 =>
  asB v15 fun b16 =>
  br b16 (
  call Try.prog 7 #[] w9 fun v17 w10 =>
  asB v17 fun b18 =>
  R (.bool b18) w10) (
  R (.bool false) w9)) (
  br ((n5 : Int) == 5) (
  call Try.prog 17 #[.slice p2 l2 c2, .slice x0 y0 z0] w8 fun v19 w11 =>
  asB v19 fun b20 =>
  br b20 (
  call Try.prog 7 #[] w11 fun v21 w12 =>
  asB v21 fun b22 =>
  R (.bool b22) w12) (
  R (.bool false) w11)) (
  R (.bool false) w8))) (
  R (.bool false) w8)) (
  R (.bool false) w8)
@[irreducible] def tenonlaw08_PacketDecodes_ann : Ann := .none
theorem tenonlaw08_PacketDecodes_call {x0 : Option Addr} {y0 z0 : Nat} {R : Value → World → Prop} {w : World} (h : tenonlaw08_PacketDecodes x0 y0 z0 R w) : call Try.prog 4 #[.slice x0 y0 z0] w R :=
  call_of_fnW plain mixed Try.func4 tenonlaw08_PacketDecodes_ann (Eq.mp (by kernel_rfl : tenonlaw08_PacketDecodes x0 y0 z0 R w = fnW Try.prog Try.f4 tenonlaw08_PacketDecodes_ann #[.slice x0 y0 z0] R w) h)

def tenonlaw08_PacketBack (x0 : Array Value) (x1 : Int) (x2 : Int) (R : Value → World → Prop) (w : World) : Prop :=
  new x0 28 w fun k1 w1 =>
  ldS ((⟨k1, 0, none⟩ : Addr).add 24) w1 fun p2 l2 c2 =>
  br (decide ((l2 : Int) > 10)) (
  call Try.prog 7 #[] w1 fun v3 w2 =>
  asB v3 fun b4 =>
  R (.bool b4) w2) (
  ldA (⟨k1, 0, none⟩ : Addr) 25 w1 fun g5 =>
  call Try.prog 8 #[.agg g5] w1 fun v6 w3 =>
  ∃ (p7 : Option Addr) (l7 c7 : Nat) (n8 : Int),
  v6 = .tuple #[.slice p7 l7 c7, .int .i64 n8] ∧
  br ((n8 : Int) != 0) (
  ldA (⟨k1, 0, none⟩ : Addr) 25 w3 fun g9 =>
  call Try.prog 10 #[.agg g9] w3 fun v10 w4 =>
  asI .i64 v10 fun n11 =>
  br ((n11 : Int) == n8) (
  call Try.prog 7 #[] w4 fun v12 w5 =>
  asB v12 fun b13 =>
  R (.bool b13) w5) (
  R (.bool false) w4)) (
  call Try.prog 14 #[.slice p7 l7 c7] w3 fun v14 w6 =>
  ∃ (g15 : Array Value) (n16 : Int),
  v14 = .tuple #[.agg g15, .int .i64 n16] ∧
  new #[.int .i64 0, .int .i64 0, .int .i64 0, .int .u64 0, .int .u64 0, .int .u8 0, .int .u8 0, .int .u8 0, .int .u8 0, .int .u8 0, .int .u8 0, .int .u8 0, .int .u8 0, .int .u8 0, .int .u8 0, .int .u8 0, .int .u8 0, .int .u8 0, .int .u8 0, .int .u8 0, .int .u8 0, .int .i64 0, .int .i64 0, .int .i64 0, .slice none 0 0] 28 w6 fun k17 w7 =>
  stA Try.prog (⟨k17, 0, none⟩ : Addr) 25 g15 w7 fun w8 =>
  br ((n16 : Int) != 0) (
  R (.bool false) w8) (
  ldA (⟨k1, 0, none⟩ : Addr) 25 w8 fun g18 =>
  ldA (⟨k17, 0, none⟩ : Addr) 25 w8 fun g19 =>
  call Try.prog 16 #[.agg g18, .agg g19] w8 fun v20 w9 =>
  asB v20 fun b21 =>
  br (!b21) (
  R (.bool false) w9) (
  call Try.prog 18 #[.int .i64 x1, .int .i64 ((l7 : Int))] w9 fun v22 w10 =>
  asI .i64 v22 fun n23 =>
  slc p7 c7 1 0 n23 fun p24 l24 c24 =>
  call Try.prog 14 #[.slice p24 l24 c24] w10 fun v25 w11 =>
  ∃ (g26 : Array Value) (n27 : Int),
  v25 = .tuple #[.agg g26, .int .i64 n27] ∧
  new #[.int .i64 0, .int .i64 0, .int .i64 0, .int .u64 0, .int .u64 0, .int .u8 0, .int .u8 0, .int .u8 0, .int .u8 0, .int .u8 0, .int .u8 0, .int .u8 0, .int .u8 0, .int .u8 0, .int .u8 0, .int .u8 0, .int .u8 0, .int .u8 0, .int .u8 0, .int .u8 0, .int .u8 0, .int .i64 0, .int .i64 0, .int .i64 0, .slice none 0 0] 28 w11 fun k28 w12 =>
  stA Try.prog (⟨k28, 0, none⟩ : Addr) 25 g26 w12 fun w13 =>
  call Try.prog 19 #[.slice p7 l7 c7] w13 fun v29 w14 =>
  asS v29 fun p30 l30 c30 =>
  new #[.int .u8 x2] 5 w14 fun k31 w15 =>
  runsS Try.prog (Builtin.append_ #[30, 30] 30 #[.slice p30 l30 c30, .slice (some (⟨k31, 0, none⟩ : Addr)) 1 1]) w15 fun p32 l32 c32 w16 =>
  call Try.prog 14 #[.slice p32 l32 c32] w16 fun v33 w17 =>
  ∃ (g34 : Array Value) (n35 : Int),
  v33 = .tuple #[.agg g34, .int .i64 n35] ∧
  new #[.int .i64 0, .int .i64 0, .int .i64 0, .int .u64 0, .int .u64 0, .int .u8 0, .int .u8 0, .int .u8 0, .int .u8 0, .int .u8 0, .int .u8 0, .int .u8 0, .int .u8 0, .int .u8 0, .int .u8 0, .int .u8 0, .int .u8 0, .int .u8 0, .int .u8 0, .int .u8 0, .int .u8 0, .int .i64 0, .int .i64 0, .int .i64 0, .slice none 0 0] 28 w17 fun k36 w18 =>
  stA Try.prog (⟨k36, 0, none⟩ : Addr) 25 g34 w18 fun w19 =>
  br ((n27 : Int) == 5) (
  br ((n35 : Int) == 5) (
  call Try.prog 7 #[] w19 fun v37 w20 =>
  asB v37 fun b38 =>
  R (.bool b38) w20) (
  R (.bool false) w19)) (
  R (.bool false) w19)))))
@[irreducible] def tenonlaw08_PacketBack_ann : Ann := .none
theorem tenonlaw08_PacketBack_call {x0 : Array Value} {x1 : Int} {x2 : Int} {R : Value → World → Prop} {w : World} (h : tenonlaw08_PacketBack x0 x1 x2 R w) : call Try.prog 5 #[.agg x0, .int .i64 x1, .int .u8 x2] w R :=
  call_of_fnW plain mixed Try.func5 tenonlaw08_PacketBack_ann (Eq.mp (by kernel_rfl : tenonlaw08_PacketBack x0 x1 x2 R w = fnW Try.prog Try.f5 tenonlaw08_PacketBack_ann #[.agg x0, .int .i64 x1, .int .u8 x2] R w) h)

def tenonlaw08_PacketSame (x0 : Array Value) (x1 : Array Value) (R : Value → World → Prop) (w : World) : Prop :=
  new x0 28 w fun k1 w1 =>
  new x1 28 w1 fun k2 w2 =>
  ldS ((⟨k1, 0, none⟩ : Addr).add 24) w2 fun p3 l3 c3 =>
  br (decide ((l3 : Int) > 10)) (
  call Try.prog 7 #[] w2 fun v4 w3 =>
  asB v4 fun b5 =>
  R (.bool b5) w3) (
  ldS ((⟨k2, 0, none⟩ : Addr).add 24) w2 fun p6 l6 c6 =>
  br (decide ((l6 : Int) > 10)) (
  call Try.prog 7 #[] w2 fun v7 w4 =>
  asB v7 fun b8 =>
  R (.bool b8) w4) (
  ldA (⟨k1, 0, none⟩ : Addr) 25 w2 fun g9 =>
  ldA (⟨k2, 0, none⟩ : Addr) 25 w2 fun g10 =>
  call Try.prog 20 #[.agg g9, .agg g10] w2 fun v11 w5 =>
  asB v11 fun b12 =>
  ldA (⟨k1, 0, none⟩ : Addr) 25 w5 fun g13 =>
  ldA (⟨k2, 0, none⟩ : Addr) 25 w5 fun g14 =>
  call Try.prog 16 #[.agg g13, .agg g14] w5 fun v15 w6 =>
  asB v15 fun b16 =>
  br (!(b12 == b16)) (
  R (.bool false) w6) (
  ldA (⟨k1, 0, none⟩ : Addr) 25 w6 fun g17 =>
  ldA (⟨k1, 0, none⟩ : Addr) 25 w6 fun g18 =>
  call Try.prog 20 #[.agg g17, .agg g18] w6 fun v19 w7 =>
  asB v19 fun b20 =>
  br (!b20) (
  R (.bool false) w7) (
  ldA (⟨k1, 0, none⟩ : Addr) 25 w7 fun g21 =>
  call Try.prog 8 #[.agg g21] w7 fun v22 w8 =>
  ∃ (p23 : Option Addr) (l23 c23 : Nat) (n24 : Int),
  v22 = .tuple #[.slice p23 l23 c23, .int .i64 n24] ∧
  ldA (⟨k2, 0, none⟩ : Addr) 25 w8 fun g25 =>
  call Try.prog 8 #[.agg g25] w8 fun v26 w9 =>
  ∃ (p27 : Option Addr) (l27 c27 : Nat) (n28 : Int),
  v26 = .tuple #[.slice p27 l27 c27, .int .i64 n28] ∧
  br ((n24 : Int) != 0) (
  call Try.prog 7 #[] w9 fun v29 w10 =>
  asB v29 fun b30 =>
  R (.bool b30) w10) (
  br ((n28 : Int) != 0) (
  call Try.prog 7 #[] w9 fun v31 w11 =>
  asB v31 fun b32 =>
  R (.bool b32) w11) (
  call Try.prog 11 #[.slice p23 l23 c23, .slice p27 l27 c27] w9 fun v33 w12 =>
  asB v33 fun b34 =>
  br (b12 == b34) (
  call Try.prog 7 #[] w12 fun v35 w13 =>
  asB v35 fun b36 =>
  R (.bool b36) w13) (
  R (.bool false) w12)))))))
@[irreducible] def tenonlaw08_PacketSame_ann : Ann := .none
theorem tenonlaw08_PacketSame_call {x0 : Array Value} {x1 : Array Value} {R : Value → World → Prop} {w : World} (h : tenonlaw08_PacketSame x0 x1 R w) : call Try.prog 6 #[.agg x0, .agg x1] w R :=
  call_of_fnW plain mixed Try.func6 tenonlaw08_PacketSame_ann (Eq.mp (by kernel_rfl : tenonlaw08_PacketSame x0 x1 R w = fnW Try.prog Try.f6 tenonlaw08_PacketSame_ann #[.agg x0, .agg x1] R w) h)

def tenonlaw08_awake  (R : Value → World → Prop) (w : World) : Prop :=
  new #[.int .i64 0, .int .i64 0, .int .i64 0, .int .u64 0, .int .u64 0, .int .u8 0, .int .u8 0, .int .u8 0, .int .u8 0, .int .u8 0, .int .u8 0, .int .u8 0, .int .u8 0, .int .u8 0, .int .u8 0, .int .u8 0, .int .u8 0, .int .u8 0, .int .u8 0, .int .u8 0, .int .u8 0, .int .i64 0, .int .i64 0, .int .i64 0, .slice none 0 0] 28 w fun k1 w1 =>
  stA Try.prog (⟨k1, 0, none⟩ : Addr) 25 #[.int .i64 5, .int .i64 0, .int .i64 1, .int .u64 2, .int .u64 0, .int .u8 0, .int .u8 0, .int .u8 0, .int .u8 0, .int .u8 0, .int .u8 0, .int .u8 0, .int .u8 0, .int .u8 0, .int .u8 0, .int .u8 0, .int .u8 0, .int .u8 0, .int .u8 0, .int .u8 0, .int .u8 0, .int .i64 0, .int .i64 0, .int .i64 0, .slice none 0 0] w1 fun w2 =>
  ldA (⟨k1, 0, none⟩ : Addr) 25 w2 fun g2 =>
  call Try.prog 8 #[.agg g2] w2 fun v3 w3 =>
  ∃ (p4 : Option Addr) (l4 c4 : Nat) (n5 : Int),
  v3 = .tuple #[.slice p4 l4 c4, .int .i64 n5] ∧
  call Try.prog 14 #[.slice p4 l4 c4] w3 fun v6 w4 =>
  ∃ (g7 : Array Value) (n8 : Int),
  v6 = .tuple #[.agg g7, .int .i64 n8] ∧
  new #[.int .i64 0, .int .i64 0, .int .i64 0, .int .u64 0, .int .u64 0, .int .u8 0, .int .u8 0, .int .u8 0, .int .u8 0, .int .u8 0, .int .u8 0, .int .u8 0, .int .u8 0, .int .u8 0, .int .u8 0, .int .u8 0, .int .u8 0, .int .u8 0, .int .u8 0, .int .u8 0, .int .u8 0, .int .i64 0, .int .i64 0, .int .i64 0, .slice none 0 0] 28 w4 fun k9 w5 =>
  stA Try.prog (⟨k9, 0, none⟩ : Addr) 25 g7 w5 fun w6 =>
  br ((n5 : Int) == 0) (
  br ((n8 : Int) == 0) (
  new #[.int .u8 5, .int .u8 0, .int .u8 1, .int .u8 0, .int .u8 0, .int .u8 0, .int .u8 0, .int .u8 0, .int .u8 2, .int .u8 0, .int .u8 0, .int .u8 0, .int .u8 0, .int .u8 0, .int .u8 0, .int .u8 0] 5 w6 fun k10 w7 =>
  call Try.prog 11 #[.slice p4 l4 c4, .slice (some (⟨k10, 0, none⟩ : Addr)) 16 16] w7 fun v11 w8 =>
  asB v11 fun b12 =>
  br b12 (
  ldA (⟨k1, 0, none⟩ : Addr) 25 w8 fun g13 =>
  ldA (⟨k9, 0, none⟩ : Addr) 25 w8 fun g14 =>
  call Try.prog 16 #[.agg g13, .agg g14] w8 fun v15 w9 =>
  asB v15 fun b16 =>
  R (.bool b16) w9) (
  R (.bool false) w8)) (
  R (.bool false) w6)) (
  R (.bool false) w6)
@[irreducible] def tenonlaw08_awake_ann : Ann := .none
theorem tenonlaw08_awake_call  {R : Value → World → Prop} {w : World} (h : tenonlaw08_awake  R w) : call Try.prog 7 #[] w R :=
  call_of_fnW plain mixed Try.func7 tenonlaw08_awake_ann (Eq.mp (by kernel_rfl : tenonlaw08_awake  R w = fnW Try.prog Try.f7 tenonlaw08_awake_ann #[] R w) h)

def packet_Encode (x0 : Array Value) (R : Value → World → Prop) (w : World) : Prop :=
  new x0 28 w fun k1 w1 =>
  ldA (⟨k1, 0, none⟩ : Addr) 25 w1 fun g2 =>
  call Try.prog 10 #[.agg g2] w1 fun v3 w2 =>
  asI .i64 v3 fun n4 =>
  br ((n4 : Int) != 0) (
  R (.tuple #[.slice none 0 0, .int .i64 n4]) w2) (
  call Try.prog 21 #[] w2 fun v5 w3 =>
  asP v5 fun p6 =>
  ldI .i64 ((⟨k1, 0, none⟩ : Addr).add 0) w3 fun n7 =>
  ldI .i64 ((⟨k1, 0, none⟩ : Addr).add 1) w3 fun n8 =>
  ldI .i64 ((⟨k1, 0, none⟩ : Addr).add 2) w3 fun n9 =>
  ∃ I10 : Int → World → Nat → Prop, (∃ m11, I10 0 w3 m11) ∧
  ∀ (u12 : Nat → Value) (n13 : Int) (w4 : World) (m14 : Nat), I10 n13 w4 m14 →
  br (decide ((n13 : Int) < 3)) (
  (0 ≤ n13 ∧ n13 < (3 : Int)) ∧
  fldI .i64 #[.int .i64 n7, .int .i64 n8, .int .i64 n9] (Int.toNat n13 * 1) fun n15 =>
  arith .u64 n15 fun n16 =>
  call Try.prog 22 #[.pointer p6, .int .u64 n16, .int .i64 1] w4 fun v17 w5 =>
  asI .i64 v17 fun n18 =>
  arith .i64 (n13 + 1) fun n19 =>
  ∃ m20, m20 < m14 ∧ I10 n19 w5 m20) (
  ldI .u64 ((⟨k1, 0, none⟩ : Addr).add 3) w4 fun n21 =>
  call Try.prog 22 #[.pointer p6, .int .u64 n21, .int .i64 8] w4 fun v22 w6 =>
  asI .i64 v22 fun n23 =>
  ldI .i64 ((⟨k1, 0, none⟩ : Addr).add 0) w6 fun n24 =>
  call Try.prog 23 #[.int .i64 n24] w6 fun v25 w7 =>
  ∃ (b26 : Bool) (b27 : Bool) (b28 : Bool) (b29 : Bool) (b30 : Bool) (b31 : Bool),
  v25 = .tuple #[.bool b26, .bool b27, .bool b28, .bool b29, .bool b30, .bool b31] ∧
  ∃ J32 : World → Prop, (
  br b26 (
  ldI .u64 ((⟨k1, 0, none⟩ : Addr).add 4) w7 fun n33 =>
  call Try.prog 22 #[.pointer p6, .int .u64 n33, .int .i64 8] w7 fun v34 w8 =>
  asI .i64 v34 fun n35 =>
  J32  w8) (
  J32  w7)) ∧
  ∀ (u36 : Nat → Value)  (w9 : World), J32  w9 →
  ldA ((⟨k1, 0, none⟩ : Addr).add 5) 16 w9 fun g37 =>
  ∃ I38 : Int → World → Nat → Prop, (∃ m39, I38 0 w9 m39) ∧
  ∀ (u40 : Nat → Value) (n41 : Int) (w10 : World) (m42 : Nat), I38 n41 w10 m42 →
  br (decide ((n41 : Int) < 16)) (
  (0 ≤ n41 ∧ n41 < (16 : Int)) ∧
  fldI .u8 g37 (Int.toNat n41 * 1) fun n43 =>
  br b27 (
  arith .u64 n43 fun n44 =>
  call Try.prog 22 #[.pointer p6, .int .u64 n44, .int .i64 1] w10 fun v45 w11 =>
  asI .i64 v45 fun n46 =>
  arith .i64 (n41 + 1) fun n47 =>
  ∃ m48, m48 < m42 ∧ I38 n47 w11 m48) (
  arith .i64 (n41 + 1) fun n49 =>
  ∃ m50, m50 < m42 ∧ I38 n49 w10 m50)) (
  ∃ J51 : World → Prop, (
  br b28 (
  ldI .i64 ((⟨k1, 0, none⟩ : Addr).add 21) w10 fun n52 =>
  arith .u64 n52 fun n53 =>
  call Try.prog 22 #[.pointer p6, .int .u64 n53, .int .i64 1] w10 fun v54 w12 =>
  asI .i64 v54 fun n55 =>
  J51  w12) (
  J51  w10)) ∧
  ∀ (u56 : Nat → Value)  (w13 : World), J51  w13 →
  ∃ J57 : World → Prop, (
  br b29 (
  ldI .i64 ((⟨k1, 0, none⟩ : Addr).add 23) w13 fun n58 =>
  arith .u64 n58 fun n59 =>
  call Try.prog 22 #[.pointer p6, .int .u64 n59, .int .i64 1] w13 fun v60 w14 =>
  asI .i64 v60 fun n61 =>
  J57  w14) (
  J57  w13)) ∧
  ∀ (u62 : Nat → Value)  (w15 : World), J57  w15 →
  ∃ J63 : World → Prop, (
  br b30 (
  ldI .i64 ((⟨k1, 0, none⟩ : Addr).add 22) w15 fun n64 =>
  arith .u64 n64 fun n65 =>
  call Try.prog 22 #[.pointer p6, .int .u64 n65, .int .i64 8] w15 fun v66 w16 =>
  asI .i64 v66 fun n67 =>
  J63  w16) (
  J63  w15)) ∧
  ∀ (u68 : Nat → Value)  (w17 : World), J63  w17 →
  ∃ J69 : World → Prop, (
  br b31 (
  ldS ((⟨k1, 0, none⟩ : Addr).add 24) w17 fun p70 l70 c70 =>
  arith .u64 ((l70 : Int)) fun n71 =>
  call Try.prog 22 #[.pointer p6, .int .u64 n71, .int .i64 8] w17 fun v72 w18 =>
  asI .i64 v72 fun n73 =>
  J69  w18) (
  J69  w17)) ∧
  ∀ (u74 : Nat → Value)  (w19 : World), J69  w19 →
  call Try.prog 24 #[.pointer p6] w19 fun v75 w20 =>
  asS v75 fun p76 l76 c76 =>
  ldS ((⟨k1, 0, none⟩ : Addr).add 24) w20 fun p77 l77 c77 =>
  ∃ I78 : Option Addr → Nat → Nat → Int → World → Nat → Prop, (∃ m79, I78 p76 l76 c76 0 w20 m79) ∧
  ∀ (u80 : Nat → Value) (p81 : Option Addr) (l81 c81 : Nat) (n82 : Int) (w21 : World) (m83 : Nat), I78 p81 l81 c81 n82 w21 m83 →
  br (decide ((n82 : Int) < (l77 : Int))) (
  idx p77 l77 n82 36 fun a84 =>
  ldA a84 36 w21 fun g85 =>
  new #[.int .u32 0, .int .u32 0, .int .u64 0, .int .u64 0, .int .u8 0, .int .u8 0, .int .u8 0, .int .u8 0, .int .u8 0, .int .u8 0, .int .u8 0, .int .u8 0, .int .u8 0, .int .u8 0, .int .u8 0, .int .u8 0, .int .u8 0, .int .u8 0, .int .u8 0, .int .u8 0, .int .u8 0, .int .u8 0, .int .u8 0, .int .u8 0, .int .u8 0, .int .u8 0, .int .u8 0, .int .u8 0, .int .u8 0, .int .u8 0, .int .u8 0, .int .u8 0, .int .u8 0, .int .u8 0, .int .u8 0, .int .u8 0] 55 w21 fun k86 w22 =>
  stA Try.prog (⟨k86, 0, none⟩ : Addr) 36 g85 w22 fun w23 =>
  ldA (⟨k86, 0, none⟩ : Addr) 36 w23 fun g87 =>
  call Try.prog 25 #[.agg g87] w23 fun v88 w24 =>
  ∃ (p89 : Option Addr) (l89 c89 : Nat) (n90 : Int),
  v88 = .tuple #[.slice p89 l89 c89, .int .i64 n90] ∧
  runsS Try.prog (Builtin.append_ #[30, 30] 30 #[.slice p81 l81 c81, .slice p89 l89 c89]) w24 fun p91 l91 c91 w25 =>
  arith .i64 (n82 + 1) fun n92 =>
  ∃ m93, m93 < m83 ∧ I78 p91 l91 c91 n92 w25 m93) (
  R (.tuple #[.slice p81 l81 c81, .int .i64 0]) w21))))
@[irreducible] def packet_Encode_ann : Ann := .seq .none (.seq .none (.seq .none (.seq (.seq .none (.one (.loop [(34, .int .i64)] .none))) (.seq .none (.seq .none (.meet [] .none (.seq (.seq .none (.one (.loop [(63, .int .i64)] .none))) (.meet [] .none (.meet [] .none (.meet [] .none (.meet [] .none (.seq .none (.seq (.seq .none (.one (.loop [(16, .slice), (102, .int .i64)] .none))) .none)))))))))))))
theorem packet_Encode_call {x0 : Array Value} {R : Value → World → Prop} {w : World} (h : packet_Encode x0 R w) : call Try.prog 8 #[.agg x0] w R :=
  call_of_fnW plain mixed Try.func8 packet_Encode_ann (Eq.mp (by kernel_rfl : packet_Encode x0 R w = fnW Try.prog Try.f8 packet_Encode_ann #[.agg x0] R w) h)

def tenonref08_Right (x0 : Array Value) (R : Value → World → Prop) (w : World) : Prop :=
  new x0 28 w fun k1 w1 =>
  ldI .i64 ((⟨k1, 0, none⟩ : Addr).add 1) w1 fun n2 =>
  br (decide ((n2 : Int) < 0)) (
  R (.bool false) w1) (
  ldI .i64 ((⟨k1, 0, none⟩ : Addr).add 1) w1 fun n3 =>
  br (decide ((n3 : Int) > 3)) (
  R (.bool false) w1) (
  ldI .i64 ((⟨k1, 0, none⟩ : Addr).add 2) w1 fun n4 =>
  br (decide ((n4 : Int) < 0)) (
  R (.bool false) w1) (
  ldI .i64 ((⟨k1, 0, none⟩ : Addr).add 2) w1 fun n5 =>
  br (decide ((n5 : Int) > 3)) (
  R (.bool false) w1) (
  ldI .i64 ((⟨k1, 0, none⟩ : Addr).add 1) w1 fun n6 =>
  ldI .i64 ((⟨k1, 0, none⟩ : Addr).add 2) w1 fun n7 =>
  br ((n6 : Int) == n7) (
  R (.bool false) w1) (
  new #[.int .u8 0, .int .u8 0, .int .u8 0, .int .u8 0, .int .u8 0, .int .u8 0, .int .u8 0, .int .u8 0, .int .u8 0, .int .u8 0, .int .u8 0, .int .u8 0, .int .u8 0, .int .u8 0, .int .u8 0, .int .u8 0] 24 w1 fun k8 w2 =>
  stA Try.prog (⟨k8, 0, none⟩ : Addr) 16 #[.int .u8 0, .int .u8 0, .int .u8 0, .int .u8 0, .int .u8 0, .int .u8 0, .int .u8 0, .int .u8 0, .int .u8 0, .int .u8 0, .int .u8 0, .int .u8 0, .int .u8 0, .int .u8 0, .int .u8 0, .int .u8 0] w2 fun w3 =>
  ldI .i64 ((⟨k1, 0, none⟩ : Addr).add 0) w3 fun n9 =>
  br ((n9 : Int) == 1) (
  ldS ((⟨k1, 0, none⟩ : Addr).add 24) w3 fun p10 l10 c10 =>
  br (decide ((l10 : Int) > 1)) (
  R (.bool false) w3) (
  ldS ((⟨k1, 0, none⟩ : Addr).add 24) w3 fun p11 l11 c11 =>
  br ((l11 : Int) == 1) (
  ldS ((⟨k1, 0, none⟩ : Addr).add 24) w3 fun p12 l12 c12 =>
  idx p12 l12 0 36 fun a13 =>
  ldA a13 36 w3 fun g14 =>
  call Try.prog 26 #[.agg g14] w3 fun v15 w4 =>
  asB v15 fun b16 =>
  br (!b16) (
  R (.bool false) w4) (
  ldI .i64 ((⟨k1, 0, none⟩ : Addr).add 21) w4 fun n17 =>
  br (decide ((n17 : Int) ≥ 0)) (
  ldI .i64 ((⟨k1, 0, none⟩ : Addr).add 21) w4 fun n18 =>
  br (decide ((n18 : Int) ≤ 7)) (
  ldI .i64 ((⟨k1, 0, none⟩ : Addr).add 23) w4 fun n19 =>
  R (.bool ((n19 : Int) == 0)) w4) (
  R (.bool false) w4)) (
  R (.bool false) w4))) (
  ldI .i64 ((⟨k1, 0, none⟩ : Addr).add 21) w3 fun n20 =>
  br (decide ((n20 : Int) ≥ 0)) (
  ldI .i64 ((⟨k1, 0, none⟩ : Addr).add 21) w3 fun n21 =>
  br (decide ((n21 : Int) ≤ 7)) (
  ldI .i64 ((⟨k1, 0, none⟩ : Addr).add 23) w3 fun n22 =>
  R (.bool ((n22 : Int) == 0)) w3) (
  R (.bool false) w3)) (
  R (.bool false) w3)))) (
  br ((n9 : Int) == 2) (
  ldA ((⟨k1, 0, none⟩ : Addr).add 5) 16 w3 fun g23 =>
  ldA (⟨k8, 0, none⟩ : Addr) 16 w3 fun g24 =>
  still Try.prog (Op.equal 24 (.agg g23) (.agg g24)) fun b25 =>
  br b25 (
  ldI .i64 ((⟨k1, 0, none⟩ : Addr).add 21) w3 fun n26 =>
  br ((n26 : Int) == 0) (
  ldS ((⟨k1, 0, none⟩ : Addr).add 24) w3 fun p27 l27 c27 =>
  br ((l27 : Int) == 0) (
  ldI .i64 ((⟨k1, 0, none⟩ : Addr).add 23) w3 fun n28 =>
  br (decide ((n28 : Int) ≥ 0)) (
  ldI .i64 ((⟨k1, 0, none⟩ : Addr).add 23) w3 fun n29 =>
  R (.bool (decide ((n29 : Int) ≤ 20))) w3) (
  R (.bool false) w3)) (
  R (.bool false) w3)) (
  R (.bool false) w3)) (
  R (.bool false) w3)) (
  ∃ J30 : Bool → World → Prop, (
  br ((n9 : Int) == 3) (
  J30 ((n9 : Int) == 3) w3) (
  J30 ((n9 : Int) == 4) w3)) ∧
  ∀ (u31 : Nat → Value) (b32 : Bool) (w5 : World), J30 b32 w5 →
  br b32 (
  ldI .u64 ((⟨k1, 0, none⟩ : Addr).add 4) w5 fun n33 =>
  br ((n33 : Int) == 0) (
  ldI .i64 ((⟨k1, 0, none⟩ : Addr).add 21) w5 fun n34 =>
  br ((n34 : Int) == 0) (
  ldI .i64 ((⟨k1, 0, none⟩ : Addr).add 23) w5 fun n35 =>
  br ((n35 : Int) == 0) (
  ldS ((⟨k1, 0, none⟩ : Addr).add 24) w5 fun p36 l36 c36 =>
  br ((l36 : Int) == 0) (
  ldI .i64 ((⟨k1, 0, none⟩ : Addr).add 22) w5 fun n37 =>
  br (decide ((n37 : Int) ≥ 1)) (
  ldI .i64 ((⟨k1, 0, none⟩ : Addr).add 22) w5 fun n38 =>
  R (.bool (decide ((n38 : Int) ≤ 4294967295))) w5) (
  R (.bool false) w5)) (
  R (.bool false) w5)) (
  R (.bool false) w5)) (
  R (.bool false) w5)) (
  R (.bool false) w5)) (
  br ((n9 : Int) == 5) (
  ldI .u64 ((⟨k1, 0, none⟩ : Addr).add 4) w5 fun n39 =>
  br ((n39 : Int) == 0) (
  ldA ((⟨k1, 0, none⟩ : Addr).add 5) 16 w5 fun g40 =>
  ldA (⟨k8, 0, none⟩ : Addr) 16 w5 fun g41 =>
  still Try.prog (Op.equal 24 (.agg g40) (.agg g41)) fun b42 =>
  br b42 (
  ldI .i64 ((⟨k1, 0, none⟩ : Addr).add 21) w5 fun n43 =>
  br ((n43 : Int) == 0) (
  ldI .i64 ((⟨k1, 0, none⟩ : Addr).add 23) w5 fun n44 =>
  br ((n44 : Int) == 0) (
  ldI .i64 ((⟨k1, 0, none⟩ : Addr).add 22) w5 fun n45 =>
  br ((n45 : Int) == 0) (
  ldS ((⟨k1, 0, none⟩ : Addr).add 24) w5 fun p46 l46 c46 =>
  R (.bool ((l46 : Int) == 0)) w5) (
  R (.bool false) w5)) (
  R (.bool false) w5)) (
  R (.bool false) w5)) (
  R (.bool false) w5)) (
  R (.bool false) w5)) (
  R (.bool false) w5)))))))))
@[irreducible] def tenonref08_Right_ann : Ann := .seq .none (.seq .none (.seq .none (.seq (.seq .none (.one (.seq .none (.seq .none (.seq .none (.seq .none (.meet [(92, .bool)] .none .none))))))) .none)))
theorem tenonref08_Right_call {x0 : Array Value} {R : Value → World → Prop} {w : World} (h : tenonref08_Right x0 R w) : call Try.prog 9 #[.agg x0] w R :=
  call_of_fnW plain mixed Try.func9 tenonref08_Right_ann (Eq.mp (by kernel_rfl : tenonref08_Right x0 R w = fnW Try.prog Try.f9 tenonref08_Right_ann #[.agg x0] R w) h)

def packet_Check (x0 : Array Value) (R : Value → World → Prop) (w : World) : Prop :=
  new x0 28 w fun k1 w1 =>
  ldI .i64 ((⟨k1, 0, none⟩ : Addr).add 1) w1 fun n2 =>
  call Try.prog 27 #[.int .i64 n2] w1 fun v3 w2 =>
  asB v3 fun b4 =>
  br (!b4) (
  R (.int .i64 5) w2) (
  ldI .i64 ((⟨k1, 0, none⟩ : Addr).add 2) w2 fun n5 =>
  call Try.prog 27 #[.int .i64 n5] w2 fun v6 w3 =>
  asB v6 fun b7 =>
  br (!b7) (
  R (.int .i64 5) w3) (
  ldI .i64 ((⟨k1, 0, none⟩ : Addr).add 1) w3 fun n8 =>
  ldI .i64 ((⟨k1, 0, none⟩ : Addr).add 2) w3 fun n9 =>
  br ((n8 : Int) == n9) (
  R (.int .i64 5) w3) (
  ldA (⟨k1, 0, none⟩ : Addr) 25 w3 fun g10 =>
  call Try.prog 28 #[.agg g10] w3 fun v11 w4 =>
  asB v11 fun b12 =>
  br (!b12) (
  R (.int .i64 5) w4) (
  R (.int .i64 0) w4))))
@[irreducible] def packet_Check_ann : Ann := .none
theorem packet_Check_call {x0 : Array Value} {R : Value → World → Prop} {w : World} (h : packet_Check x0 R w) : call Try.prog 10 #[.agg x0] w R :=
  call_of_fnW plain mixed Try.func10 packet_Check_ann (Eq.mp (by kernel_rfl : packet_Check x0 R w = fnW Try.prog Try.f10 packet_Check_ann #[.agg x0] R w) h)

def tenonref01_SameBytes (x0 : Option Addr) (y0 z0 : Nat) (x1 : Option Addr) (y1 z1 : Nat) (R : Value → World → Prop) (w : World) : Prop :=
  br ((y0 : Int) != (y1 : Int)) (
  R (.bool false) w) (
  ∃ I1 : Int → World → Nat → Prop, (∃ m2, I1 0 w m2) ∧
  ∀ (u3 : Nat → Value) (n4 : Int) (w1 : World) (m5 : Nat), I1 n4 w1 m5 →
  br (decide ((n4 : Int) < (y0 : Int))) (
  idx x0 y0 n4 1 fun a6 =>
  ldI .u8 a6 w1.drew fun n7 =>
  idx x1 y1 n4 1 fun a8 =>
  ldI .u8 a8 w1.drew fun n9 =>
  br ((n7 : Int) != n9) (
  R (.bool false) w1.drew) (
  arith .i64 (n4 + 1) fun n10 =>
  ∃ m11, m11 < m5 ∧ I1 n10 w1.drew m11)) (
  R (.bool true) w1))
@[irreducible] def tenonref01_SameBytes_ann : Ann := .seq .none (.seq .none (.seq (.seq .none (.one (.loop [(5, .int .i64)] (.seq .none (.seq (.one (.seq (.draw [[], [], [0, 1], [0, 1, 2], [], [], [4, 5], [4, 5, 6], [0, 1, 2, 3, 4, 5, 6, 7]] (ol [0, 1, 2, 3, 4, 5, 6, 7, 8] .nil)) .none)) .none))))) .none))
theorem tenonref01_SameBytes_call {x0 : Option Addr} {y0 z0 : Nat} {x1 : Option Addr} {y1 z1 : Nat} {R : Value → World → Prop} {w : World} (h : tenonref01_SameBytes x0 y0 z0 x1 y1 z1 R w) : call Try.prog 11 #[.slice x0 y0 z0, .slice x1 y1 z1] w R :=
  call_of_fnW plain mixed Try.func11 tenonref01_SameBytes_ann (Eq.mp (by kernel_rfl : tenonref01_SameBytes x0 y0 z0 x1 y1 z1 R w = fnW Try.prog Try.f11 tenonref01_SameBytes_ann #[.slice x0 y0 z0, .slice x1 y1 z1] R w) h)

def tenonref08_Encode (x0 : Array Value) (R : Value → World → Prop) (w : World) : Prop :=
  new x0 28 w fun k1 w1 =>
  ldI .i64 ((⟨k1, 0, none⟩ : Addr).add 0) w1 fun n2 =>
  arith .u8 n2 fun n3 =>
  ldI .i64 ((⟨k1, 0, none⟩ : Addr).add 1) w1 fun n4 =>
  arith .u8 n4 fun n5 =>
  ldI .i64 ((⟨k1, 0, none⟩ : Addr).add 2) w1 fun n6 =>
  arith .u8 n6 fun n7 =>
  new #[.int .u8 n3, .int .u8 n5, .int .u8 n7] 5 w1 fun k8 w2 =>
  ldI .u64 ((⟨k1, 0, none⟩ : Addr).add 3) w2 fun n9 =>
  call Try.prog 29 #[.slice (some (⟨k8, 0, none⟩ : Addr)) 3 3, .int .u64 n9, .int .i64 8] w2 fun v10 w3 =>
  asS v10 fun p11 l11 c11 =>
  ldI .i64 ((⟨k1, 0, none⟩ : Addr).add 0) w3 fun n12 =>
  br ((n12 : Int) == 1) (
  ldI .u64 ((⟨k1, 0, none⟩ : Addr).add 4) w3 fun n13 =>
  call Try.prog 29 #[.slice p11 l11 c11, .int .u64 n13, .int .i64 8] w3 fun v14 w4 =>
  asS v14 fun p15 l15 c15 =>
  slc (some ((⟨k1, 0, none⟩ : Addr).add 5)) 16 1 0 ((16 : Int)) fun p16 l16 c16 =>
  runsS Try.prog (Builtin.append_ #[30, 30] 30 #[.slice p15 l15 c15, .slice p16 l16 c16]) w4 fun p17 l17 c17 w5 =>
  ldI .i64 ((⟨k1, 0, none⟩ : Addr).add 21) w5 fun n18 =>
  arith .u8 n18 fun n19 =>
  new #[.int .u8 n19] 5 w5 fun k20 w6 =>
  runsS Try.prog (Builtin.append_ #[30, 30] 30 #[.slice p17 l17 c17, .slice (some (⟨k20, 0, none⟩ : Addr)) 1 1]) w6 fun p21 l21 c21 w7 =>
  ldI .i64 ((⟨k1, 0, none⟩ : Addr).add 22) w7 fun n22 =>
  arith .u64 n22 fun n23 =>
  call Try.prog 29 #[.slice p21 l21 c21, .int .u64 n23, .int .i64 8] w7 fun v24 w8 =>
  asS v24 fun p25 l25 c25 =>
  ldS ((⟨k1, 0, none⟩ : Addr).add 24) w8 fun p26 l26 c26 =>
  arith .u64 ((l26 : Int)) fun n27 =>
  call Try.prog 29 #[.slice p25 l25 c25, .int .u64 n27, .int .i64 8] w8 fun v28 w9 =>
  asS v28 fun p29 l29 c29 =>
  ldS ((⟨k1, 0, none⟩ : Addr).add 24) w9 fun p30 l30 c30 =>
  br ((l30 : Int) == 1) (
  ldS ((⟨k1, 0, none⟩ : Addr).add 24) w9 fun p31 l31 c31 =>
  idx p31 l31 0 36 fun a32 =>
  ldA a32 36 w9 fun g33 =>
  call Try.prog 30 #[.slice p29 l29 c29, .agg g33] w9 fun v34 w10 =>
  asS v34 fun p35 l35 c35 =>
  R (.slice p35 l35 c35) w10) (
  R (.slice p29 l29 c29) w9)) (
  br ((n12 : Int) == 2) (
  ldI .u64 ((⟨k1, 0, none⟩ : Addr).add 4) w3 fun n36 =>
  call Try.prog 29 #[.slice p11 l11 c11, .int .u64 n36, .int .i64 8] w3 fun v37 w11 =>
  asS v37 fun p38 l38 c38 =>
  ldI .i64 ((⟨k1, 0, none⟩ : Addr).add 23) w11 fun n39 =>
  arith .u8 n39 fun n40 =>
  new #[.int .u8 n40] 5 w11 fun k41 w12 =>
  runsS Try.prog (Builtin.append_ #[30, 30] 30 #[.slice p38 l38 c38, .slice (some (⟨k41, 0, none⟩ : Addr)) 1 1]) w12 fun p42 l42 c42 w13 =>
  ldI .i64 ((⟨k1, 0, none⟩ : Addr).add 22) w13 fun n43 =>
  arith .u64 n43 fun n44 =>
  call Try.prog 29 #[.slice p42 l42 c42, .int .u64 n44, .int .i64 8] w13 fun v45 w14 =>
  asS v45 fun p46 l46 c46 =>
  R (.slice p46 l46 c46) w14) (
  br ((n12 : Int) == 3) (
  br ((n12 : Int) == 3) (
  slc (some ((⟨k1, 0, none⟩ : Addr).add 5)) 16 1 0 ((16 : Int)) fun p47 l47 c47 =>
  runsS Try.prog (Builtin.append_ #[30, 30] 30 #[.slice p11 l11 c11, .slice p47 l47 c47]) w3 fun p48 l48 c48 w15 =>
  ldI .i64 ((⟨k1, 0, none⟩ : Addr).add 22) w15 fun n49 =>
  arith .u64 n49 fun n50 =>
  call Try.prog 29 #[.slice p48 l48 c48, .int .u64 n50, .int .i64 8] w15 fun v51 w16 =>
  asS v51 fun p52 l52 c52 =>
  R (.slice p52 l52 c52) w16) (
  R (.slice p11 l11 c11) w3)) (
  br ((n12 : Int) == 4) (
  slc (some ((⟨k1, 0, none⟩ : Addr).add 5)) 16 1 0 ((16 : Int)) fun p53 l53 c53 =>
  runsS Try.prog (Builtin.append_ #[30, 30] 30 #[.slice p11 l11 c11, .slice p53 l53 c53]) w3 fun p54 l54 c54 w17 =>
  ldI .i64 ((⟨k1, 0, none⟩ : Addr).add 22) w17 fun n55 =>
  arith .u64 n55 fun n56 =>
  call Try.prog 29 #[.slice p54 l54 c54, .int .u64 n56, .int .i64 8] w17 fun v57 w18 =>
  asS v57 fun p58 l58 c58 =>
  R (.slice p58 l58 c58) w18) (
  R (.slice p11 l11 c11) w3))))
@[irreducible] def tenonref08_Encode_ann : Ann := .none
theorem tenonref08_Encode_call {x0 : Array Value} {R : Value → World → Prop} {w : World} (h : tenonref08_Encode x0 R w) : call Try.prog 12 #[.agg x0] w R :=
  call_of_fnW plain mixed Try.func12 tenonref08_Encode_ann (Eq.mp (by kernel_rfl : tenonref08_Encode x0 R w = fnW Try.prog Try.f12 tenonref08_Encode_ann #[.agg x0] R w) h)

def tenonref01_Lent (x0 : Option Addr) (y0 z0 : Nat) (R : Value → World → Prop) (w : World) : Prop :=
  arith .i64 ((y0 : Int) + 4) fun n1 =>
  runsS Try.prog (Instr.makeSlice 30 (.int .i64 0) (.int .i64 n1)) w fun p2 l2 c2 w1 =>
  ∃ I3 : Option Addr → Nat → Nat → Int → World → Nat → Prop, (∃ m4, I3 p2 l2 c2 0 w1 m4) ∧
  ∀ (u5 : Nat → Value) (p6 : Option Addr) (l6 c6 : Nat) (n7 : Int) (w2 : World) (m8 : Nat), I3 p6 l6 c6 n7 w2 m8 →
  br (decide ((n7 : Int) < (y0 : Int))) (
  idx x0 y0 n7 1 fun a9 =>
  ldI .u8 a9 w2 fun n10 =>
  new #[.int .u8 n10] 5 w2 fun k11 w3 =>
  runsS Try.prog (Builtin.append_ #[30, 30] 30 #[.slice p6 l6 c6, .slice (some (⟨k11, 0, none⟩ : Addr)) 1 1]) w3 fun p12 l12 c12 w4 =>
  arith .i64 (n7 + 1) fun n13 =>
  ∃ m14, m14 < m8 ∧ I3 p12 l12 c12 n13 w4 m14) (
  new #[.int .u8 90, .int .u8 91, .int .u8 92, .int .u8 93] 5 w2 fun k15 w5 =>
  runsS Try.prog (Builtin.append_ #[30, 30] 30 #[.slice p6 l6 c6, .slice (some (⟨k15, 0, none⟩ : Addr)) 4 4]) w5 fun p16 l16 c16 w6 =>
  slc p16 c16 1 0 ((y0 : Int)) fun p17 l17 c17 =>
  R (.slice p17 l17 c17) w6)
@[irreducible] def tenonref01_Lent_ann : Ann := .seq .none (.seq .none (.seq (.seq .none (.one (.loop [(3, .slice), (4, .int .i64)] .none))) .none))
theorem tenonref01_Lent_call {x0 : Option Addr} {y0 z0 : Nat} {R : Value → World → Prop} {w : World} (h : tenonref01_Lent x0 y0 z0 R w) : call Try.prog 13 #[.slice x0 y0 z0] w R :=
  call_of_fnW plain mixed Try.func13 tenonref01_Lent_ann (Eq.mp (by kernel_rfl : tenonref01_Lent x0 y0 z0 R w = fnW Try.prog Try.f13 tenonref01_Lent_ann #[.slice x0 y0 z0] R w) h)

def packet_Decode (x0 : Option Addr) (y0 z0 : Nat) (R : Value → World → Prop) (w : World) : Prop :=
  new #[.int .i64 0, .int .i64 0, .int .i64 0, .int .u64 0, .int .u64 0, .int .u8 0, .int .u8 0, .int .u8 0, .int .u8 0, .int .u8 0, .int .u8 0, .int .u8 0, .int .u8 0, .int .u8 0, .int .u8 0, .int .u8 0, .int .u8 0, .int .u8 0, .int .u8 0, .int .u8 0, .int .u8 0, .int .i64 0, .int .i64 0, .int .i64 0, .slice none 0 0] 28 w fun k1 w1 =>
  call Try.prog 31 #[.slice x0 y0 z0] w1 fun v2 w2 =>
  asP v2 fun p3 =>
  new #[.pointer none] 61 w2 fun k4 w3 =>
  st (⟨k4, 0, none⟩ : Addr) (.pointer p3) w3 fun w4 =>
  new #[.int .i64 0, .int .i64 0, .int .i64 0, .int .u64 0, .int .u64 0, .int .u8 0, .int .u8 0, .int .u8 0, .int .u8 0, .int .u8 0, .int .u8 0, .int .u8 0, .int .u8 0, .int .u8 0, .int .u8 0, .int .u8 0, .int .u8 0, .int .u8 0, .int .u8 0, .int .u8 0, .int .u8 0, .int .i64 0, .int .i64 0, .int .i64 0, .slice none 0 0] 28 w4 fun k5 w5 =>
  call Try.prog 32 #[.int .i64 1, .pointer (some (⟨k4, 0, none⟩ : Addr))] w5 fun v6 w6 =>
  asI .u64 v6 fun n7 =>
  arith .i64 n7 fun n8 =>
  call Try.prog 32 #[.int .i64 1, .pointer (some (⟨k4, 0, none⟩ : Addr))] w6 fun v9 w7 =>
  asI .u64 v9 fun n10 =>
  arith .i64 n10 fun n11 =>
  call Try.prog 32 #[.int .i64 1, .pointer (some (⟨k4, 0, none⟩ : Addr))] w7 fun v12 w8 =>
  asI .u64 v12 fun n13 =>
  arith .i64 n13 fun n14 =>
  call Try.prog 32 #[.int .i64 8, .pointer (some (⟨k4, 0, none⟩ : Addr))] w8 fun v15 w9 =>
  asI .u64 v15 fun n16 =>
  st ((⟨k5, 0, none⟩ : Addr).add 0) (.int .i64 n8) w9 fun w10 =>
  st ((⟨k5, 0, none⟩ : Addr).add 1) (.int .i64 n11) w10 fun w11 =>
  st ((⟨k5, 0, none⟩ : Addr).add 2) (.int .i64 n14) w11 fun w12 =>
  st ((⟨k5, 0, none⟩ : Addr).add 3) (.int .u64 n16) w12 fun w13 =>
  ldI .i64 ((⟨k5, 0, none⟩ : Addr).add 0) w13 fun n17 =>
  call Try.prog 23 #[.int .i64 n17] w13 fun v18 w14 =>
  ∃ (b19 : Bool) (b20 : Bool) (b21 : Bool) (b22 : Bool) (b23 : Bool) (b24 : Bool),
  v18 = .tuple #[.bool b19, .bool b20, .bool b21, .bool b22, .bool b23, .bool b24] ∧
  ∃ J25 : World → Prop, (
  br b19 (
  call Try.prog 32 #[.int .i64 8, .pointer (some (⟨k4, 0, none⟩ : Addr))] w14 fun v26 w15 =>
  asI .u64 v26 fun n27 =>
  st ((⟨k5, 0, none⟩ : Addr).add 4) (.int .u64 n27) w15 fun w16 =>
  J25  w16) (
  J25  w14)) ∧
  ∀ (u28 : Nat → Value)  (w17 : World), J25  w17 →
  ∃ I29 : Int → World → Nat → Prop, (∃ m30, I29 0 w17 m30) ∧
  ∀ (u31 : Nat → Value) (n32 : Int) (w18 : World) (m33 : Nat), I29 n32 w18 m33 →
  br (decide ((n32 : Int) < 16)) (
  br b20 (
  call Try.prog 32 #[.int .i64 1, .pointer (some (⟨k4, 0, none⟩ : Addr))] w18 fun v34 w19 =>
  asI .u64 v34 fun n35 =>
  arith .u8 n35 fun n36 =>
  idxA ((⟨k5, 0, none⟩ : Addr).add 5) 16 n32 1 fun a37 =>
  st a37 (.int .u8 n36) w19 fun w20 =>
  arith .i64 (n32 + 1) fun n38 =>
  ∃ m39, m39 < m33 ∧ I29 n38 w20 m39) (
  arith .i64 (n32 + 1) fun n40 =>
  ∃ m41, m41 < m33 ∧ I29 n40 w18 m41)) (
  ∃ J42 : World → Prop, (
  br b21 (
  call Try.prog 32 #[.int .i64 1, .pointer (some (⟨k4, 0, none⟩ : Addr))] w18 fun v43 w21 =>
  asI .u64 v43 fun n44 =>
  arith .i64 n44 fun n45 =>
  st ((⟨k5, 0, none⟩ : Addr).add 21) (.int .i64 n45) w21 fun w22 =>
  J42  w22) (
  J42  w18)) ∧
  ∀ (u46 : Nat → Value)  (w23 : World), J42  w23 →
  ∃ J47 : World → Prop, (
  br b22 (
  call Try.prog 32 #[.int .i64 1, .pointer (some (⟨k4, 0, none⟩ : Addr))] w23 fun v48 w24 =>
  asI .u64 v48 fun n49 =>
  arith .i64 n49 fun n50 =>
  st ((⟨k5, 0, none⟩ : Addr).add 23) (.int .i64 n50) w24 fun w25 =>
  J47  w25) (
  J47  w23)) ∧
  ∀ (u51 : Nat → Value)  (w26 : World), J47  w26 →
  ∃ J52 : World → Prop, (
  br b23 (
  call Try.prog 32 #[.int .i64 8, .pointer (some (⟨k4, 0, none⟩ : Addr))] w26 fun v53 w27 =>
  asI .u64 v53 fun n54 =>
  arith .i64 n54 fun n55 =>
  st ((⟨k5, 0, none⟩ : Addr).add 22) (.int .i64 n55) w27 fun w28 =>
  J52  w28) (
  J52  w26)) ∧
  ∀ (u56 : Nat → Value)  (w29 : World), J52  w29 →
  ∃ J57 : World → Prop, (
  ∃ J58 : Bool → World → Prop, (
  br b24 (
  call Try.prog 32 #[.int .i64 8, .pointer (some (⟨k4, 0, none⟩ : Addr))] w29 fun v59 w30 =>
  asI .u64 v59 fun n60 =>
  J58 ((n60 : Int) == 1) w30) (
  J58 false w29)) ∧
  ∀ (u61 : Nat → Value) (b62 : Bool) (w31 : World), J58 b62 w31 →
  br b62 (
  ldP (⟨k4, 0, none⟩ : Addr) w31 fun p63 =>
  call Try.prog 35 #[.pointer p63] w31 fun v64 w32 =>
  asI .i64 v64 fun n65 =>
  arith .i64 ((y0 : Int) - n65) fun n66 =>
  slc x0 z0 1 n66 ((y0 : Int)) fun p67 l67 c67 =>
  call Try.prog 34 #[.slice p67 l67 c67] w32 fun v68 w33 =>
  ∃ (g69 : Array Value) (n70 : Int),
  v68 = .tuple #[.agg g69, .int .i64 n70] ∧
  new #[.int .u32 0, .int .u32 0, .int .u64 0, .int .u64 0, .int .u8 0, .int .u8 0, .int .u8 0, .int .u8 0, .int .u8 0, .int .u8 0, .int .u8 0, .int .u8 0, .int .u8 0, .int .u8 0, .int .u8 0, .int .u8 0, .int .u8 0, .int .u8 0, .int .u8 0, .int .u8 0, .int .u8 0, .int .u8 0, .int .u8 0, .int .u8 0, .int .u8 0, .int .u8 0, .int .u8 0, .int .u8 0, .int .u8 0, .int .u8 0, .int .u8 0, .int .u8 0, .int .u8 0, .int .u8 0, .int .u8 0, .int .u8 0] 55 w33 fun k71 w34 =>
  stA Try.prog (⟨k71, 0, none⟩ : Addr) 36 g69 w34 fun w35 =>
  ldA (⟨k71, 0, none⟩ : Addr) 36 w35 fun g72 =>
  (g72 : Array Value).size = 36 ∧
  new g72 55 w35 fun k73 w36 =>
  st ((⟨k5, 0, none⟩ : Addr).add 24) (.slice (some (⟨k73, 0, none⟩ : Addr)) 1 1) w36 fun w37 =>
  J57  w37) (
  J57  w31)) ∧
  ∀ (u74 : Nat → Value)  (w38 : World), J57  w38 →
  ldA (⟨k5, 0, none⟩ : Addr) 25 w38 fun g75 =>
  call Try.prog 8 #[.agg g75] w38 fun v76 w39 =>
  ∃ (p77 : Option Addr) (l77 c77 : Nat) (n78 : Int),
  v76 = .tuple #[.slice p77 l77 c77, .int .i64 n78] ∧
  br ((n78 : Int) != 0) (
  stA Try.prog (⟨k1, 0, none⟩ : Addr) 25 #[.int .i64 0, .int .i64 0, .int .i64 0, .int .u64 0, .int .u64 0, .int .u8 0, .int .u8 0, .int .u8 0, .int .u8 0, .int .u8 0, .int .u8 0, .int .u8 0, .int .u8 0, .int .u8 0, .int .u8 0, .int .u8 0, .int .u8 0, .int .u8 0, .int .u8 0, .int .u8 0, .int .u8 0, .int .i64 0, .int .i64 0, .int .i64 0, .slice none 0 0] w39 fun w40 =>
  ldA (⟨k1, 0, none⟩ : Addr) 25 w40 fun g79 =>
  R (.tuple #[.agg g79, .int .i64 5]) w40) (
  call Try.prog 36 #[.slice p77 l77 c77, .slice x0 y0 z0] w39 fun v80 w41 =>
  asB v80 fun b81 =>
  br (!b81) (
  stA Try.prog (⟨k1, 0, none⟩ : Addr) 25 #[.int .i64 0, .int .i64 0, .int .i64 0, .int .u64 0, .int .u64 0, .int .u8 0, .int .u8 0, .int .u8 0, .int .u8 0, .int .u8 0, .int .u8 0, .int .u8 0, .int .u8 0, .int .u8 0, .int .u8 0, .int .u8 0, .int .u8 0, .int .u8 0, .int .u8 0, .int .u8 0, .int .u8 0, .int .i64 0, .int .i64 0, .int .i64 0, .slice none 0 0] w41 fun w42 =>
  ldA (⟨k1, 0, none⟩ : Addr) 25 w42 fun g82 =>
  R (.tuple #[.agg g82, .int .i64 5]) w42) (
  ldA (⟨k5, 0, none⟩ : Addr) 25 w41 fun g83 =>
  stA Try.prog (⟨k1, 0, none⟩ : Addr) 25 g83 w41 fun w43 =>
  ldA (⟨k1, 0, none⟩ : Addr) 25 w43 fun g84 =>
  R (.tuple #[.agg g84, .int .i64 0]) w43)))
@[irreducible] def packet_Decode_ann : Ann := .seq .none (.seq .none (.seq .none (.seq .none (.seq .none (.seq .none (.meet [] .none (.seq (.seq .none (.one (.loop [(50, .int .i64)] .none))) (.meet [] .none (.meet [] .none (.meet [] .none (.meet [] (.meet [(81, .bool)] .none .none) .none)))))))))))
theorem packet_Decode_call {x0 : Option Addr} {y0 z0 : Nat} {R : Value → World → Prop} {w : World} (h : packet_Decode x0 y0 z0 R w) : call Try.prog 14 #[.slice x0 y0 z0] w R :=
  call_of_fnW plain mixed Try.func14 packet_Decode_ann (Eq.mp (by kernel_rfl : packet_Decode x0 y0 z0 R w = fnW Try.prog Try.f14 packet_Decode_ann #[.slice x0 y0 z0] R w) h)

def tenonref08_Decode (x0 : Option Addr) (y0 z0 : Nat) (R : Value → World → Prop) (w : World) : Prop :=
  new #[.int .i64 0, .int .i64 0, .int .i64 0, .int .u64 0, .int .u64 0, .int .u8 0, .int .u8 0, .int .u8 0, .int .u8 0, .int .u8 0, .int .u8 0, .int .u8 0, .int .u8 0, .int .u8 0, .int .u8 0, .int .u8 0, .int .u8 0, .int .u8 0, .int .u8 0, .int .u8 0, .int .u8 0, .int .i64 0, .int .i64 0, .int .i64 0, .slice none 0 0] 28 w fun k1 w1 =>
  br (decide ((y0 : Int) < 16)) (
  stA Try.prog (⟨k1, 0, none⟩ : Addr) 25 #[.int .i64 0, .int .i64 0, .int .i64 0, .int .u64 0, .int .u64 0, .int .u8 0, .int .u8 0, .int .u8 0, .int .u8 0, .int .u8 0, .int .u8 0, .int .u8 0, .int .u8 0, .int .u8 0, .int .u8 0, .int .u8 0, .int .u8 0, .int .u8 0, .int .u8 0, .int .u8 0, .int .u8 0, .int .i64 0, .int .i64 0, .int .i64 0, .slice none 0 0] w1 fun w2 =>
  ldA (⟨k1, 0, none⟩ : Addr) 25 w2 fun g2 =>
  R (.tuple #[.agg g2, .bool false]) w2) (
  ∃ J3 : Addr → World → Prop, (
  idx x0 y0 0 1 fun a4 =>
  ldI .u8 a4 w1.drew fun n5 =>
  arith .i64 n5 fun n6 =>
  idx x0 y0 1 1 fun a7 =>
  ldI .u8 a7 w1.drew fun n8 =>
  arith .i64 n8 fun n9 =>
  idx x0 y0 2 1 fun a10 =>
  ldI .u8 a10 w1.drew fun n11 =>
  arith .i64 n11 fun n12 =>
  (call Try.prog 37 #[.slice x0 y0 z0, .int .i64 8] w1.drew fun v13 w3 =>
  asI .u64 v13 fun n14 =>
  w3.cell? a10 = some (.int .u8 n11) ∧
  w3.cell? a7 = some (.int .u8 n8) ∧
  w3.cell? a4 = some (.int .u8 n5) ∧
  new #[.int .i64 0, .int .i64 0, .int .i64 0, .int .u64 0, .int .u64 0, .int .u8 0, .int .u8 0, .int .u8 0, .int .u8 0, .int .u8 0, .int .u8 0, .int .u8 0, .int .u8 0, .int .u8 0, .int .u8 0, .int .u8 0, .int .u8 0, .int .u8 0, .int .u8 0, .int .u8 0, .int .u8 0, .int .i64 0, .int .i64 0, .int .i64 0, .slice none 0 0] 28 w3 fun k15 w4 =>
  stA Try.prog (⟨k15, 0, none⟩ : Addr) 25 #[.int .i64 n6, .int .i64 n9, .int .i64 n12, .int .u64 n14, .int .u64 0, .int .u8 0, .int .u8 0, .int .u8 0, .int .u8 0, .int .u8 0, .int .u8 0, .int .u8 0, .int .u8 0, .int .u8 0, .int .u8 0, .int .u8 0, .int .u8 0, .int .u8 0, .int .u8 0, .int .u8 0, .int .u8 0, .int .i64 0, .int .i64 0, .int .i64 0, .slice none 0 0] w4 fun w5 =>
  J3 (⟨k15, 0, none⟩ : Addr) w5) ∧
  (new #[.int .i64 0, .int .i64 0, .int .i64 0, .int .u64 0, .int .u64 0, .int .u8 0, .int .u8 0, .int .u8 0, .int .u8 0, .int .u8 0, .int .u8 0, .int .u8 0, .int .u8 0, .int .u8 0, .int .u8 0, .int .u8 0, .int .u8 0, .int .u8 0, .int .u8 0, .int .u8 0, .int .u8 0, .int .i64 0, .int .i64 0, .int .i64 0, .slice none 0 0] 28 w1.drew fun k16 w6 =>
  call Try.prog 37 #[.slice x0 y0 z0, .int .i64 8] w6 fun v17 w7 =>
  asI .u64 v17 fun n18 =>
  w7.cell? a10 = some (.int .u8 n11) ∧
  w7.cell? a7 = some (.int .u8 n8) ∧
  w7.cell? a4 = some (.int .u8 n5) ∧
  stA Try.prog (⟨k16, 0, none⟩ : Addr) 25 #[.int .i64 n6, .int .i64 n9, .int .i64 n12, .int .u64 n18, .int .u64 0, .int .u8 0, .int .u8 0, .int .u8 0, .int .u8 0, .int .u8 0, .int .u8 0, .int .u8 0, .int .u8 0, .int .u8 0, .int .u8 0, .int .u8 0, .int .u8 0, .int .u8 0, .int .u8 0, .int .u8 0, .int .u8 0, .int .i64 0, .int .i64 0, .int .i64 0, .slice none 0 0] w7 fun w8 =>
  J3 (⟨k16, 0, none⟩ : Addr) w8)) ∧
  ∀ (u19 : Nat → Value) (a20 : Addr) (w9 : World), J3 a20 w9 →
  ∃ J21 : World → Prop, (
  ldI .i64 (a20.add 0) w9 fun n22 =>
  br ((n22 : Int) == 1) (
  br (decide ((y0 : Int) < 64)) (
  stA Try.prog (⟨k1, 0, none⟩ : Addr) 25 #[.int .i64 0, .int .i64 0, .int .i64 0, .int .u64 0, .int .u64 0, .int .u8 0, .int .u8 0, .int .u8 0, .int .u8 0, .int .u8 0, .int .u8 0, .int .u8 0, .int .u8 0, .int .u8 0, .int .u8 0, .int .u8 0, .int .u8 0, .int .u8 0, .int .u8 0, .int .u8 0, .int .u8 0, .int .i64 0, .int .i64 0, .int .i64 0, .slice none 0 0] w9 fun w10 =>
  ldA (⟨k1, 0, none⟩ : Addr) 25 w10 fun g23 =>
  R (.tuple #[.agg g23, .bool false]) w10) (
  call Try.prog 37 #[.slice x0 y0 z0, .int .i64 16] w9 fun v24 w11 =>
  asI .u64 v24 fun n25 =>
  st (a20.add 4) (.int .u64 n25) w11 fun w12 =>
  call Try.prog 38 #[.slice x0 y0 z0, .int .i64 24] w12 fun v26 w13 =>
  asA v26 fun g27 =>
  stA Try.prog (a20.add 5) 16 g27 w13 fun w14 =>
  idx x0 y0 40 1 fun a28 =>
  ldI .u8 a28 w14 fun n29 =>
  arith .i64 n29 fun n30 =>
  st (a20.add 21) (.int .i64 n30) w14 fun w15 =>
  call Try.prog 37 #[.slice x0 y0 z0, .int .i64 48] w15 fun v31 w16 =>
  asI .u64 v31 fun n32 =>
  arith .i64 n32 fun n33 =>
  st (a20.add 22) (.int .i64 n33) w16 fun w17 =>
  call Try.prog 37 #[.slice x0 y0 z0, .int .i64 56] w17 fun v34 w18 =>
  asI .u64 v34 fun n35 =>
  br ((n35 : Int) == 1) (
  slc x0 z0 1 64 ((y0 : Int)) fun p36 l36 c36 =>
  call Try.prog 39 #[.slice p36 l36 c36] w18 fun v37 w19 =>
  ∃ (g38 : Array Value) (n39 : Int),
  v37 = .tuple #[.agg g38, .int .i64 n39] ∧
  new #[.int .u32 0, .int .u32 0, .int .u64 0, .int .u64 0, .int .u8 0, .int .u8 0, .int .u8 0, .int .u8 0, .int .u8 0, .int .u8 0, .int .u8 0, .int .u8 0, .int .u8 0, .int .u8 0, .int .u8 0, .int .u8 0, .int .u8 0, .int .u8 0, .int .u8 0, .int .u8 0, .int .u8 0, .int .u8 0, .int .u8 0, .int .u8 0, .int .u8 0, .int .u8 0, .int .u8 0, .int .u8 0, .int .u8 0, .int .u8 0, .int .u8 0, .int .u8 0, .int .u8 0, .int .u8 0, .int .u8 0, .int .u8 0] 55 w19 fun k40 w20 =>
  stA Try.prog (⟨k40, 0, none⟩ : Addr) 36 g38 w20 fun w21 =>
  ldA (⟨k40, 0, none⟩ : Addr) 36 w21 fun g41 =>
  (g41 : Array Value).size = 36 ∧
  new g41 55 w21 fun k42 w22 =>
  st (a20.add 24) (.slice (some (⟨k42, 0, none⟩ : Addr)) 1 1) w22 fun w23 =>
  J21  w23) (
  J21  w18))) (
  br ((n22 : Int) == 2) (
  br (decide ((y0 : Int) < 40)) (
  stA Try.prog (⟨k1, 0, none⟩ : Addr) 25 #[.int .i64 0, .int .i64 0, .int .i64 0, .int .u64 0, .int .u64 0, .int .u8 0, .int .u8 0, .int .u8 0, .int .u8 0, .int .u8 0, .int .u8 0, .int .u8 0, .int .u8 0, .int .u8 0, .int .u8 0, .int .u8 0, .int .u8 0, .int .u8 0, .int .u8 0, .int .u8 0, .int .u8 0, .int .i64 0, .int .i64 0, .int .i64 0, .slice none 0 0] w9 fun w24 =>
  ldA (⟨k1, 0, none⟩ : Addr) 25 w24 fun g43 =>
  R (.tuple #[.agg g43, .bool false]) w24) (
  call Try.prog 37 #[.slice x0 y0 z0, .int .i64 16] w9 fun v44 w25 =>
  asI .u64 v44 fun n45 =>
  st (a20.add 4) (.int .u64 n45) w25 fun w26 =>
  idx x0 y0 24 1 fun a46 =>
  ldI .u8 a46 w26 fun n47 =>
  arith .i64 n47 fun n48 =>
  st (a20.add 23) (.int .i64 n48) w26 fun w27 =>
  call Try.prog 37 #[.slice x0 y0 z0, .int .i64 32] w27 fun v49 w28 =>
  asI .u64 v49 fun n50 =>
  arith .i64 n50 fun n51 =>
  st (a20.add 22) (.int .i64 n51) w28 fun w29 =>
  J21  w29)) (
  br ((n22 : Int) == 3) (
  br ((n22 : Int) == 3) (
  call Try.prog 38 #[.slice x0 y0 z0, .int .i64 16] w9 fun v52 w30 =>
  asA v52 fun g53 =>
  stA Try.prog (a20.add 5) 16 g53 w30 fun w31 =>
  call Try.prog 37 #[.slice x0 y0 z0, .int .i64 32] w31 fun v54 w32 =>
  asI .u64 v54 fun n55 =>
  arith .i64 n55 fun n56 =>
  st (a20.add 22) (.int .i64 n56) w32 fun w33 =>
  J21  w33) (
  J21  w9)) (
  br ((n22 : Int) == 4) (
  call Try.prog 38 #[.slice x0 y0 z0, .int .i64 16] w9 fun v57 w34 =>
  asA v57 fun g58 =>
  stA Try.prog (a20.add 5) 16 g58 w34 fun w35 =>
  call Try.prog 37 #[.slice x0 y0 z0, .int .i64 32] w35 fun v59 w36 =>
  asI .u64 v59 fun n60 =>
  arith .i64 n60 fun n61 =>
  st (a20.add 22) (.int .i64 n61) w36 fun w37 =>
  J21  w37) (
  J21  w9))))) ∧
  ∀ (u62 : Nat → Value)  (w38 : World), J21  w38 →
  ldA a20 25 w38 fun g63 =>
  call Try.prog 9 #[.agg g63] w38 fun v64 w39 =>
  asB v64 fun b65 =>
  br (!b65) (
  stA Try.prog (⟨k1, 0, none⟩ : Addr) 25 #[.int .i64 0, .int .i64 0, .int .i64 0, .int .u64 0, .int .u64 0, .int .u8 0, .int .u8 0, .int .u8 0, .int .u8 0, .int .u8 0, .int .u8 0, .int .u8 0, .int .u8 0, .int .u8 0, .int .u8 0, .int .u8 0, .int .u8 0, .int .u8 0, .int .u8 0, .int .u8 0, .int .u8 0, .int .i64 0, .int .i64 0, .int .i64 0, .slice none 0 0] w39 fun w40 =>
  ldA (⟨k1, 0, none⟩ : Addr) 25 w40 fun g66 =>
  R (.tuple #[.agg g66, .bool false]) w40) (
  ldA a20 25 w39 fun g67 =>
  call Try.prog 12 #[.agg g67] w39 fun v68 w41 =>
  asS v68 fun p69 l69 c69 =>
  call Try.prog 11 #[.slice p69 l69 c69, .slice x0 y0 z0] w41 fun v70 w42 =>
  asB v70 fun b71 =>
  br (!b71) (
  stA Try.prog (⟨k1, 0, none⟩ : Addr) 25 #[.int .i64 0, .int .i64 0, .int .i64 0, .int .u64 0, .int .u64 0, .int .u8 0, .int .u8 0, .int .u8 0, .int .u8 0, .int .u8 0, .int .u8 0, .int .u8 0, .int .u8 0, .int .u8 0, .int .u8 0, .int .u8 0, .int .u8 0, .int .u8 0, .int .u8 0, .int .u8 0, .int .u8 0, .int .i64 0, .int .i64 0, .int .i64 0, .slice none 0 0] w42 fun w43 =>
  ldA (⟨k1, 0, none⟩ : Addr) 25 w43 fun g72 =>
  R (.tuple #[.agg g72, .bool false]) w43) (
  ldA a20 25 w42 fun g73 =>
  stA Try.prog (⟨k1, 0, none⟩ : Addr) 25 g73 w42 fun w44 =>
  ldA (⟨k1, 0, none⟩ : Addr) 25 w44 fun g74 =>
  R (.tuple #[.agg g74, .bool true]) w44)))
@[irreducible] def tenonref08_Decode_ann : Ann := .seq .none (.seq .none (.meet [(4, .adr)] (.draw [[], [0], [0, 1], [0, 1, 2], [], [4], [4, 5], [4, 5, 6], [], [8], [8, 9], [8, 9, 10], [], [12], [0, 1, 2, 3, 4, 5, 6, 7, 8, 9, 10, 11, 12, 13], [], [0, 1, 2, 3, 4, 5, 6, 7, 8, 9, 10, 11, 12, 13, 14, 15]] (ol [0, 1, 2, 3, 4, 5, 6, 7, 8, 9, 10, 11, 12] (.fork 13 (ol [14, 15, 16] .nil) 15 (ol [13, 14, 16] .nil)))) (.meet [] .none .none)))
theorem tenonref08_Decode_call {x0 : Option Addr} {y0 z0 : Nat} {R : Value → World → Prop} {w : World} (h : tenonref08_Decode x0 y0 z0 R w) : call Try.prog 15 #[.slice x0 y0 z0] w R :=
  call_of_fnW plain mixed Try.func15 tenonref08_Decode_ann (Eq.mp (by kernel_rfl : tenonref08_Decode x0 y0 z0 R w = fnW Try.prog Try.f15 tenonref08_Decode_ann #[.slice x0 y0 z0] R w) h)

def tenonref08_Same (x0 : Array Value) (x1 : Array Value) (R : Value → World → Prop) (w : World) : Prop :=
  new x0 28 w fun k1 w1 =>
  new x1 28 w1 fun k2 w2 =>
  ldS ((⟨k1, 0, none⟩ : Addr).add 24) w2 fun p3 l3 c3 =>
  ldS ((⟨k2, 0, none⟩ : Addr).add 24) w2 fun p4 l4 c4 =>
  br ((l3 : Int) != (l4 : Int)) (
  R (.bool false) w2) (
  ∃ I5 : Int → World → Nat → Prop, (∃ m6, I5 0 w2 m6) ∧
  ∀ (u7 : Nat → Value) (n8 : Int) (w3 : World) (m9 : Nat), I5 n8 w3 m9 →
  ldS ((⟨k1, 0, none⟩ : Addr).add 24) w3 fun p10 l10 c10 =>
  br (decide ((n8 : Int) < (l10 : Int))) (
  ldS ((⟨k1, 0, none⟩ : Addr).add 24) w3.drew fun p11 l11 c11 =>
  idx p11 l11 n8 36 fun a12 =>
  ldA a12 36 w3.drew fun g13 =>
  ldS ((⟨k2, 0, none⟩ : Addr).add 24) w3.drew fun p14 l14 c14 =>
  idx p14 l14 n8 36 fun a15 =>
  ldA a15 36 w3.drew fun g16 =>
  still Try.prog (Op.equal 55 (.agg g13) (.agg g16)) fun b17 =>
  br (!b17) (
  R (.bool false) w3.drew) (
  arith .i64 (n8 + 1) fun n18 =>
  ∃ m19, m19 < m9 ∧ I5 n18 w3.drew m19)) (
  ldI .i64 ((⟨k1, 0, none⟩ : Addr).add 0) w3 fun n20 =>
  ldI .i64 ((⟨k2, 0, none⟩ : Addr).add 0) w3 fun n21 =>
  br ((n20 : Int) == n21) (
  ldI .i64 ((⟨k1, 0, none⟩ : Addr).add 1) w3 fun n22 =>
  ldI .i64 ((⟨k2, 0, none⟩ : Addr).add 1) w3 fun n23 =>
  br ((n22 : Int) == n23) (
  ldI .i64 ((⟨k1, 0, none⟩ : Addr).add 2) w3 fun n24 =>
  ldI .i64 ((⟨k2, 0, none⟩ : Addr).add 2) w3 fun n25 =>
  br ((n24 : Int) == n25) (
  ldI .u64 ((⟨k1, 0, none⟩ : Addr).add 3) w3 fun n26 =>
  ldI .u64 ((⟨k2, 0, none⟩ : Addr).add 3) w3 fun n27 =>
  br ((n26 : Int) == n27) (
  ldI .u64 ((⟨k1, 0, none⟩ : Addr).add 4) w3 fun n28 =>
  ldI .u64 ((⟨k2, 0, none⟩ : Addr).add 4) w3 fun n29 =>
  br ((n28 : Int) == n29) (
  ldA ((⟨k1, 0, none⟩ : Addr).add 5) 16 w3 fun g30 =>
  ldA ((⟨k2, 0, none⟩ : Addr).add 5) 16 w3 fun g31 =>
  still Try.prog (Op.equal 24 (.agg g30) (.agg g31)) fun b32 =>
  br b32 (
  ldI .i64 ((⟨k1, 0, none⟩ : Addr).add 21) w3 fun n33 =>
  ldI .i64 ((⟨k2, 0, none⟩ : Addr).add 21) w3 fun n34 =>
  br ((n33 : Int) == n34) (
  ldI .i64 ((⟨k1, 0, none⟩ : Addr).add 22) w3 fun n35 =>
  ldI .i64 ((⟨k2, 0, none⟩ : Addr).add 22) w3 fun n36 =>
  br ((n35 : Int) == n36) (
  ldI .i64 ((⟨k1, 0, none⟩ : Addr).add 23) w3 fun n37 =>
  ldI .i64 ((⟨k2, 0, none⟩ : Addr).add 23) w3 fun n38 =>
  R (.bool ((n37 : Int) == n38)) w3) (
  R (.bool false) w3)) (
  R (.bool false) w3)) (
  R (.bool false) w3)) (
  R (.bool false) w3)) (
  R (.bool false) w3)) (
  R (.bool false) w3)) (
  R (.bool false) w3)) (
  R (.bool false) w3)))
@[irreducible] def tenonref08_Same_ann : Ann := .seq .none (.seq .none (.seq (.seq .none (.one (.loop [(5, .int .i64)] (.seq .none (.seq (.one (.seq (.draw [[], [0], [], [0, 1, 2], [0, 1, 2, 3], [], [5], [], [5, 6, 7], [5, 6, 7, 8], [0, 1, 2, 3, 4, 5, 6, 7, 8, 9]] (ol [0, 1, 2, 3, 4, 5, 6, 7, 8, 9, 10] .nil)) .none)) .none))))) .none))
theorem tenonref08_Same_call {x0 : Array Value} {x1 : Array Value} {R : Value → World → Prop} {w : World} (h : tenonref08_Same x0 x1 R w) : call Try.prog 16 #[.agg x0, .agg x1] w R :=
  call_of_fnW plain mixed Try.func16 tenonref08_Same_ann (Eq.mp (by kernel_rfl : tenonref08_Same x0 x1 R w = fnW Try.prog Try.f16 tenonref08_Same_ann #[.agg x0, .agg x1] R w) h)

def tenonref01_Kept (x0 : Option Addr) (y0 z0 : Nat) (x1 : Option Addr) (y1 z1 : Nat) (R : Value → World → Prop) (w : World) : Prop :=
  arith .i64 ((y1 : Int) + 4) fun n1 =>
  slc x0 z0 1 0 n1 fun p2 l2 c2 =>
  ∃ I3 : Int → World → Nat → Prop, (∃ m4, I3 0 w m4) ∧
  ∀ (u5 : Nat → Value) (n6 : Int) (w1 : World) (m7 : Nat), I3 n6 w1 m7 →
  br (decide ((n6 : Int) < 4)) (
  arith .i64 ((y1 : Int) + n6) fun n8 =>
  idx p2 l2 n8 1 fun a9 =>
  ldI .u8 a9 w1 fun n10 =>
  arith .i64 (90 + n6) fun n11 =>
  arith .u8 n11 fun n12 =>
  br ((n10 : Int) != n12) (
  R (.bool false) w1) (
  arith .i64 (n6 + 1) fun n13 =>
  ∃ m14, m14 < m7 ∧ I3 n13 w1 m14)) (
  call Try.prog 11 #[.slice x0 y0 z0, .slice x1 y1 z1] w1 fun v15 w2 =>
  asB v15 fun b16 =>
  R (.bool b16) w2)
@[irreducible] def tenonref01_Kept_ann : Ann := .seq .none (.seq .none (.seq (.seq .none (.one (.loop [(6, .int .i64)] .none))) .none))
theorem tenonref01_Kept_call {x0 : Option Addr} {y0 z0 : Nat} {x1 : Option Addr} {y1 z1 : Nat} {R : Value → World → Prop} {w : World} (h : tenonref01_Kept x0 y0 z0 x1 y1 z1 R w) : call Try.prog 17 #[.slice x0 y0 z0, .slice x1 y1 z1] w R :=
  call_of_fnW plain mixed Try.func17 tenonref01_Kept_ann (Eq.mp (by kernel_rfl : tenonref01_Kept x0 y0 z0 x1 y1 z1 R w = fnW Try.prog Try.f17 tenonref01_Kept_ann #[.slice x0 y0 z0, .slice x1 y1 z1] R w) h)

def tenonref01_Pick (x0 : Int) (x1 : Int) (R : Value → World → Prop) (w : World) : Prop :=
  br (decide ((x1 : Int) < 1)) (
  R (.int .i64 0) w) (
  rem x0 x1 fun n1 =>
  br (decide ((n1 : Int) < 0)) (
  arith .i64 (n1 + x1) fun n2 =>
  R (.int .i64 n2) w) (
  R (.int .i64 n1) w))
@[irreducible] def tenonref01_Pick_ann : Ann := .none
theorem tenonref01_Pick_call {x0 : Int} {x1 : Int} {R : Value → World → Prop} {w : World} (h : tenonref01_Pick x0 x1 R w) : call Try.prog 18 #[.int .i64 x0, .int .i64 x1] w R :=
  call_of_fnW plain mixed Try.func18 tenonref01_Pick_ann (Eq.mp (by kernel_rfl : tenonref01_Pick x0 x1 R w = fnW Try.prog Try.f18 tenonref01_Pick_ann #[.int .i64 x0, .int .i64 x1] R w) h)

def tenonref01_Copy (x0 : Option Addr) (y0 z0 : Nat) (R : Value → World → Prop) (w : World) : Prop :=
  ∃ I1 : Option Addr → Nat → Nat → Int → World → Nat → Prop, (∃ m2, I1 none 0 0 0 w m2) ∧
  ∀ (u3 : Nat → Value) (p4 : Option Addr) (l4 c4 : Nat) (n5 : Int) (w1 : World) (m6 : Nat), I1 p4 l4 c4 n5 w1 m6 →
  br (decide ((n5 : Int) < (y0 : Int))) (
  idx x0 y0 n5 1 fun a7 =>
  ldI .u8 a7 w1 fun n8 =>
  new #[.int .u8 n8] 5 w1 fun k9 w2 =>
  runsS Try.prog (Builtin.append_ #[30, 30] 30 #[.slice p4 l4 c4, .slice (some (⟨k9, 0, none⟩ : Addr)) 1 1]) w2 fun p10 l10 c10 w3 =>
  arith .i64 (n5 + 1) fun n11 =>
  ∃ m12, m12 < m6 ∧ I1 p10 l10 c10 n11 w3 m12) (
  R (.slice p4 l4 c4) w1)
@[irreducible] def tenonref01_Copy_ann : Ann := .seq .none (.seq .none (.seq (.seq .none (.one (.loop [(3, .slice), (4, .int .i64)] .none))) .none))
theorem tenonref01_Copy_call {x0 : Option Addr} {y0 z0 : Nat} {R : Value → World → Prop} {w : World} (h : tenonref01_Copy x0 y0 z0 R w) : call Try.prog 19 #[.slice x0 y0 z0] w R :=
  call_of_fnW plain mixed Try.func19 tenonref01_Copy_ann (Eq.mp (by kernel_rfl : tenonref01_Copy x0 y0 z0 R w = fnW Try.prog Try.f19 tenonref01_Copy_ann #[.slice x0 y0 z0] R w) h)

def packet_Same (x0 : Array Value) (x1 : Array Value) (R : Value → World → Prop) (w : World) : Prop :=
  new x0 28 w fun k1 w1 =>
  new x1 28 w1 fun k2 w2 =>
  ldI .i64 ((⟨k1, 0, none⟩ : Addr).add 0) w2 fun n3 =>
  ldI .i64 ((⟨k2, 0, none⟩ : Addr).add 0) w2 fun n4 =>
  br ((n3 : Int) == n4) (
  ldI .i64 ((⟨k1, 0, none⟩ : Addr).add 1) w2 fun n5 =>
  ldI .i64 ((⟨k2, 0, none⟩ : Addr).add 1) w2 fun n6 =>
  br ((n5 : Int) == n6) (
  ldI .i64 ((⟨k1, 0, none⟩ : Addr).add 2) w2 fun n7 =>
  ldI .i64 ((⟨k2, 0, none⟩ : Addr).add 2) w2 fun n8 =>
  br ((n7 : Int) == n8) (
  ldI .u64 ((⟨k1, 0, none⟩ : Addr).add 3) w2 fun n9 =>
  ldI .u64 ((⟨k2, 0, none⟩ : Addr).add 3) w2 fun n10 =>
  br ((n9 : Int) == n10) (
  ldI .u64 ((⟨k1, 0, none⟩ : Addr).add 4) w2 fun n11 =>
  ldI .u64 ((⟨k2, 0, none⟩ : Addr).add 4) w2 fun n12 =>
  br ((n11 : Int) == n12) (
  ldA ((⟨k1, 0, none⟩ : Addr).add 5) 16 w2 fun g13 =>
  ldA ((⟨k2, 0, none⟩ : Addr).add 5) 16 w2 fun g14 =>
  still Try.prog (Op.equal 24 (.agg g13) (.agg g14)) fun b15 =>
  br b15 (
  ldI .i64 ((⟨k1, 0, none⟩ : Addr).add 21) w2 fun n16 =>
  ldI .i64 ((⟨k2, 0, none⟩ : Addr).add 21) w2 fun n17 =>
  br ((n16 : Int) == n17) (
  ldI .i64 ((⟨k1, 0, none⟩ : Addr).add 22) w2 fun n18 =>
  ldI .i64 ((⟨k2, 0, none⟩ : Addr).add 22) w2 fun n19 =>
  br ((n18 : Int) == n19) (
  ldI .i64 ((⟨k1, 0, none⟩ : Addr).add 23) w2 fun n20 =>
  ldI .i64 ((⟨k2, 0, none⟩ : Addr).add 23) w2 fun n21 =>
  br ((n20 : Int) == n21) (
  ldS ((⟨k1, 0, none⟩ : Addr).add 24) w2 fun p22 l22 c22 =>
  ldS ((⟨k2, 0, none⟩ : Addr).add 24) w2 fun p23 l23 c23 =>
  call Try.prog 40 #[.slice p22 l22 c22, .slice p23 l23 c23] w2 fun v24 w3 =>
  asB v24 fun b25 =>
  R (.bool b25) w3) (
  R (.bool false) w2)) (
  R (.bool false) w2)) (
  R (.bool false) w2)) (
  R (.bool false) w2)) (
  R (.bool false) w2)) (
  R (.bool false) w2)) (
  R (.bool false) w2)) (
  R (.bool false) w2)) (
  R (.bool false) w2)
@[irreducible] def packet_Same_ann : Ann := .none
theorem packet_Same_call {x0 : Array Value} {x1 : Array Value} {R : Value → World → Prop} {w : World} (h : packet_Same x0 x1 R w) : call Try.prog 20 #[.agg x0, .agg x1] w R :=
  call_of_fnW plain mixed Try.func20 packet_Same_ann (Eq.mp (by kernel_rfl : packet_Same x0 x1 R w = fnW Try.prog Try.f20 packet_Same_ann #[.agg x0, .agg x1] R w) h)

def wire_NewWriter  (R : Value → World → Prop) (w : World) : Prop :=
  new #[.slice none 0 0] 75 w fun k1 w1 =>
  R (.pointer (some (⟨k1, 0, none⟩ : Addr))) w1
@[irreducible] def wire_NewWriter_ann : Ann := .none
theorem wire_NewWriter_call  {R : Value → World → Prop} {w : World} (h : wire_NewWriter  R w) : call Try.prog 21 #[] w R :=
  call_of_fnW plain mixed Try.func21 wire_NewWriter_ann (Eq.mp (by kernel_rfl : wire_NewWriter  R w = fnW Try.prog Try.f21 wire_NewWriter_ann #[] R w) h)

def wire_Writer_Num (x0 : Option Addr) (x1 : Int) (x2 : Int) (R : Value → World → Prop) (w : World) : Prop :=
  ∃ J1 : World → Prop, (
  br x0.isNone (
  R (.int .i64 1) w) (
  call Try.prog 41 #[.int .i64 x2] w fun v2 w1 =>
  asB v2 fun b3 =>
  br (!b3) (
  R (.int .i64 1) w1) (
  br (decide ((x2 : Int) < 8)) (
  arith .i64 (8 * x2) fun n4 =>
  shr .u64 x1 n4 fun n5 =>
  br ((n5 : Int) != 0) (
  R (.int .i64 1) w1) (
  J1  w1)) (
  J1  w1)))) ∧
  ∀ (u6 : Nat → Value)  (w2 : World), J1  w2 →
  nn x0 fun a7 =>
  ldS (a7.add 0) w2.drew fun p8 l8 c8 =>
  nn x0 fun a9 =>
  ldS (a9.add 0) w2.drew fun p10 l10 c10 =>
  call Try.prog 42 #[.int .i64 ((l10 : Int)), .int .i64 x2] w2.drew fun v11 w3 =>
  asI .i64 v11 fun n12 =>
  w3.cell? (a7.add 0) = some (.slice p8 l8 c8) ∧
  runsS Try.prog (Builtin.append_ #[30, 3] 30 #[.slice p8 l8 c8, .int .i64 n12]) w3 fun p13 l13 c13 w4 =>
  nn x0 fun a14 =>
  st (a14.add 0) (.slice p13 l13 c13) w4 fun w5 =>
  ∃ I15 : Int → World → Nat → Prop, (∃ m16, I15 0 w5 m16) ∧
  ∀ (u17 : Nat → Value) (n18 : Int) (w6 : World) (m19 : Nat), I15 n18 w6 m19 →
  br (decide ((n18 : Int) < x2)) (
  nn x0 fun a20 =>
  ldS (a20.add 0) w6.drew fun p21 l21 c21 =>
  arith .i64 (8 * n18) fun n22 =>
  shr .u64 x1 n22 fun n23 =>
  arith .u8 n23 fun n24 =>
  new #[.int .u8 n24] 5 w6.drew fun k25 w7 =>
  runsS Try.prog (Builtin.append_ #[30, 30] 30 #[.slice p21 l21 c21, .slice (some (⟨k25, 0, none⟩ : Addr)) 1 1]) w7 fun p26 l26 c26 w8 =>
  nn x0 fun a27 =>
  st (a27.add 0) (.slice p26 l26 c26) w8 fun w9 =>
  arith .i64 (n18 + 1) fun n28 =>
  ∃ m29, m29 < m19 ∧ I15 n28 w9 m29) (
  R (.int .i64 0) w6)
@[irreducible] def wire_Writer_Num_ann : Ann := .seq .none (.meet [] .none (.seq (.draw [[], [], [1], [1, 2], [1, 2, 3], [], [5], [5, 6], [5, 6, 7], [5, 6, 7, 8], [], [5, 6, 7, 8, 9, 10], [1, 2, 3, 4, 5, 6, 7, 8, 9, 10, 11], [0, 1, 2, 3, 4, 5, 6, 7, 8, 9, 10, 11, 12], [0, 1, 2, 3, 4, 5, 6, 7, 8, 9, 10, 11, 12, 13], [0, 1, 2, 3, 4, 5, 6, 7, 8, 9, 10, 11, 12, 13, 14]] (ol [0, 1, 2, 3, 4, 5, 6, 7, 8, 9, 10, 11, 12, 13, 14, 15] .nil)) (.seq (.seq .none (.one (.loop [(42, .int .i64)] (.seq .none (.seq .none (.seq (.one (.seq .none (.draw [[], [], [1], [1, 2], [1, 2, 3], [], [], [6], [5, 6, 7], [5, 6, 7, 8], [5, 6, 7, 8, 9], [1, 2, 3, 4, 5, 6, 7, 8, 9, 10], [0, 1, 2, 3, 4, 5, 6, 7, 8, 9, 10, 11], [0, 1, 2, 3, 4, 5, 6, 7, 8, 9, 10, 11, 12], [0, 1, 2, 3, 4, 5, 6, 7, 8, 9, 10, 11, 12, 13]] (ol [0, 1, 2, 3, 4, 5, 6, 7, 8, 9, 10, 11, 12, 13, 14] .nil)))) .none)))))) .none)))
theorem wire_Writer_Num_call {x0 : Option Addr} {x1 : Int} {x2 : Int} {R : Value → World → Prop} {w : World} (h : wire_Writer_Num x0 x1 x2 R w) : call Try.prog 22 #[.pointer x0, .int .u64 x1, .int .i64 x2] w R :=
  call_of_fnW plain mixed Try.func22 wire_Writer_Num_ann (Eq.mp (by kernel_rfl : wire_Writer_Num x0 x1 x2 R w = fnW Try.prog Try.f22 wire_Writer_Num_ann #[.pointer x0, .int .u64 x1, .int .i64 x2] R w) h)

def packet_row (x0 : Int) (R : Value → World → Prop) (w : World) : Prop :=
  br ((x0 : Int) == 1) (
  R (.tuple #[.bool true, .bool true, .bool true, .bool false, .bool true, .bool true]) w) (
  br ((x0 : Int) == 2) (
  R (.tuple #[.bool true, .bool false, .bool false, .bool true, .bool true, .bool false]) w) (
  br ((x0 : Int) == 3) (
  br ((x0 : Int) == 3) (
  R (.tuple #[.bool false, .bool true, .bool false, .bool false, .bool true, .bool false]) w) (
  R (.tuple #[.bool false, .bool false, .bool false, .bool false, .bool false, .bool false]) w)) (
  br ((x0 : Int) == 4) (
  R (.tuple #[.bool false, .bool true, .bool false, .bool false, .bool true, .bool false]) w) (
  R (.tuple #[.bool false, .bool false, .bool false, .bool false, .bool false, .bool false]) w))))
@[irreducible] def packet_row_ann : Ann := .none
theorem packet_row_call {x0 : Int} {R : Value → World → Prop} {w : World} (h : packet_row x0 R w) : call Try.prog 23 #[.int .i64 x0] w R :=
  call_of_fnW plain mixed Try.func23 packet_row_ann (Eq.mp (by kernel_rfl : packet_row x0 R w = fnW Try.prog Try.f23 packet_row_ann #[.int .i64 x0] R w) h)

def wire_Writer_Bytes (x0 : Option Addr) (R : Value → World → Prop) (w : World) : Prop :=
  br x0.isNone (
  R (.slice none 0 0) w) (
  nn x0 fun a1 =>
  ldS (a1.add 0) w fun p2 l2 c2 =>
  call Try.prog 43 #[.slice p2 l2 c2] w fun v3 w1 =>
  asS v3 fun p4 l4 c4 =>
  R (.slice p4 l4 c4) w1)
@[irreducible] def wire_Writer_Bytes_ann : Ann := .none
theorem wire_Writer_Bytes_call {x0 : Option Addr} {R : Value → World → Prop} {w : World} (h : wire_Writer_Bytes x0 R w) : call Try.prog 24 #[.pointer x0] w R :=
  call_of_fnW plain mixed Try.func24 wire_Writer_Bytes_ann (Eq.mp (by kernel_rfl : wire_Writer_Bytes x0 R w = fnW Try.prog Try.f24 wire_Writer_Bytes_ann #[.pointer x0] R w) h)

def objref_Encode (x0 : Array Value) (R : Value → World → Prop) (w : World) : Prop :=
  new x0 55 w fun k1 w1 =>
  ldA (⟨k1, 0, none⟩ : Addr) 36 w1 fun g2 =>
  call Try.prog 44 #[.agg g2] w1 fun v3 w2 =>
  asI .i64 v3 fun n4 =>
  br ((n4 : Int) != 0) (
  R (.tuple #[.slice none 0 0, .int .i64 n4]) w2) (
  call Try.prog 21 #[] w2 fun v5 w3 =>
  asP v5 fun p6 =>
  ldI .u32 ((⟨k1, 0, none⟩ : Addr).add 0) w3 fun n7 =>
  ldI .u32 ((⟨k1, 0, none⟩ : Addr).add 1) w3 fun n8 =>
  ∃ I9 : Int → World → Nat → Prop, (∃ m10, I9 0 w3 m10) ∧
  ∀ (u11 : Nat → Value) (n12 : Int) (w4 : World) (m13 : Nat), I9 n12 w4 m13 →
  br (decide ((n12 : Int) < 4)) (
  (0 ≤ n12 ∧ n12 < (4 : Int)) ∧
  fldI .u32 #[.int .u32 1464812877, .int .u32 n7, .int .u32 n8, .int .u32 0] (Int.toNat n12 * 1) fun n14 =>
  arith .u64 n14 fun n15 =>
  call Try.prog 22 #[.pointer p6, .int .u64 n15, .int .i64 4] w4 fun v16 w5 =>
  asI .i64 v16 fun n17 =>
  arith .i64 (n12 + 1) fun n18 =>
  ∃ m19, m19 < m13 ∧ I9 n18 w5 m19) (
  ldI .u64 ((⟨k1, 0, none⟩ : Addr).add 2) w4 fun n20 =>
  call Try.prog 22 #[.pointer p6, .int .u64 n20, .int .i64 8] w4 fun v21 w6 =>
  asI .i64 v21 fun n22 =>
  ldI .u64 ((⟨k1, 0, none⟩ : Addr).add 3) w6 fun n23 =>
  call Try.prog 22 #[.pointer p6, .int .u64 n23, .int .i64 8] w6 fun v24 w7 =>
  asI .i64 v24 fun n25 =>
  ldA ((⟨k1, 0, none⟩ : Addr).add 4) 16 w7 fun g26 =>
  ldA ((⟨k1, 0, none⟩ : Addr).add 20) 16 w7 fun g27 =>
  (g26 : Array Value).size = 16 ∧
  (g27 : Array Value).size = 16 ∧
  ∃ I28 : Int → World → Nat → Prop, (∃ m29, I28 0 w7 m29) ∧
  ∀ (u30 : Nat → Value) (n31 : Int) (w8 : World) (m32 : Nat), I28 n31 w8 m32 →
  br (decide ((n31 : Int) < 2)) (
  (0 ≤ n31 ∧ n31 < (2 : Int)) ∧
  new #[.int .u8 0, .int .u8 0, .int .u8 0, .int .u8 0, .int .u8 0, .int .u8 0, .int .u8 0, .int .u8 0, .int .u8 0, .int .u8 0, .int .u8 0, .int .u8 0, .int .u8 0, .int .u8 0, .int .u8 0, .int .u8 0] 24 w8 fun k33 w9 =>
  stA Try.prog (⟨k33, 0, none⟩ : Addr) 16 (((#[] ++ g26) ++ g27).extract (Int.toNat n31 * 16) ((Int.toNat n31 * 16) + 16)) w9 fun w10 =>
  ldA (⟨k33, 0, none⟩ : Addr) 16 w10 fun g34 =>
  ∃ I35 : Int → World → Nat → Prop, (∃ m36, I35 0 w10 m36) ∧
  ∀ (u37 : Nat → Value) (n38 : Int) (w11 : World) (m39 : Nat), I35 n38 w11 m39 →
  br (decide ((n38 : Int) < 16)) (
  (0 ≤ n38 ∧ n38 < (16 : Int)) ∧
  fldI .u8 g34 (Int.toNat n38 * 1) fun n40 =>
  arith .u64 n40 fun n41 =>
  call Try.prog 22 #[.pointer p6, .int .u64 n41, .int .i64 1] w11 fun v42 w12 =>
  asI .i64 v42 fun n43 =>
  arith .i64 (n38 + 1) fun n44 =>
  ∃ m45, m45 < m39 ∧ I35 n44 w12 m45) (
  arith .i64 (n31 + 1) fun n46 =>
  ∃ m47, m47 < m32 ∧ I28 n46 w11 m47)) (
  call Try.prog 24 #[.pointer p6] w8 fun v48 w13 =>
  asS v48 fun p49 l49 c49 =>
  R (.tuple #[.slice p49 l49 c49, .int .i64 0]) w13)))
@[irreducible] def objref_Encode_ann : Ann := .seq .none (.seq .none (.seq .none (.seq (.seq .none (.one (.loop [(23, .int .i64)] .none))) (.seq .none (.seq .none (.seq (.seq .none (.one (.loop [(44, .int .i64)] (.seq .none (.seq .none (.seq (.one (.seq .none (.seq .none (.one (.loop [(48, .int .i64)] .none))))) .none)))))) .none))))))
theorem objref_Encode_call {x0 : Array Value} {R : Value → World → Prop} {w : World} (h : objref_Encode x0 R w) : call Try.prog 25 #[.agg x0] w R :=
  call_of_fnW plain mixed Try.func25 objref_Encode_ann (Eq.mp (by kernel_rfl : objref_Encode x0 R w = fnW Try.prog Try.f25 objref_Encode_ann #[.agg x0] R w) h)

def tenonref07_Right (x0 : Array Value) (R : Value → World → Prop) (w : World) : Prop :=
  new x0 55 w fun k1 w1 =>
  ldI .u32 ((⟨k1, 0, none⟩ : Addr).add 0) w1 fun n2 =>
  br ((n2 : Int) == 0) (
  ldI .u32 ((⟨k1, 0, none⟩ : Addr).add 1) w1 fun n3 =>
  R (.bool (decide ((n3 : Int) > 0))) w1) (
  br ((n2 : Int) == 1) (
  br ((n2 : Int) == 1) (
  ldI .u32 ((⟨k1, 0, none⟩ : Addr).add 1) w1 fun n4 =>
  R (.bool ((n4 : Int) == 0)) w1) (
  R (.bool false) w1)) (
  br ((n2 : Int) == 2) (
  ldI .u32 ((⟨k1, 0, none⟩ : Addr).add 1) w1 fun n5 =>
  R (.bool ((n5 : Int) == 0)) w1) (
  R (.bool false) w1)))
@[irreducible] def tenonref07_Right_ann : Ann := .none
theorem tenonref07_Right_call {x0 : Array Value} {R : Value → World → Prop} {w : World} (h : tenonref07_Right x0 R w) : call Try.prog 26 #[.agg x0] w R :=
  call_of_fnW plain mixed Try.func26 tenonref07_Right_ann (Eq.mp (by kernel_rfl : tenonref07_Right x0 R w = fnW Try.prog Try.f26 tenonref07_Right_ann #[.agg x0] R w) h)

def packet_home (x0 : Int) (R : Value → World → Prop) (w : World) : Prop :=
  br (decide ((x0 : Int) ≥ 0)) (
  R (.bool (decide ((x0 : Int) < 4))) w) (
  R (.bool false) w)
@[irreducible] def packet_home_ann : Ann := .none
theorem packet_home_call {x0 : Int} {R : Value → World → Prop} {w : World} (h : packet_home x0 R w) : call Try.prog 27 #[.int .i64 x0] w R :=
  call_of_fnW plain mixed Try.func27 packet_home_ann (Eq.mp (by kernel_rfl : packet_home x0 R w = fnW Try.prog Try.f27 packet_home_ann #[.int .i64 x0] R w) h)

def packet_right (x0 : Array Value) (R : Value → World → Prop) (w : World) : Prop :=
  new x0 28 w fun k1 w1 =>
  ldA (⟨k1, 0, none⟩ : Addr) 25 w1 fun g2 =>
  call Try.prog 45 #[.agg g2] w1 fun v3 w2 =>
  asA v3 fun g4 =>
  new #[.int .i64 0, .int .i64 0, .int .i64 0, .int .u64 0, .int .u64 0, .int .u8 0, .int .u8 0, .int .u8 0, .int .u8 0, .int .u8 0, .int .u8 0, .int .u8 0, .int .u8 0, .int .u8 0, .int .u8 0, .int .u8 0, .int .u8 0, .int .u8 0, .int .u8 0, .int .u8 0, .int .u8 0, .int .i64 0, .int .i64 0, .int .i64 0, .slice none 0 0] 28 w2 fun k5 w3 =>
  stA Try.prog (⟨k5, 0, none⟩ : Addr) 25 g4 w3 fun w4 =>
  ldI .i64 ((⟨k1, 0, none⟩ : Addr).add 0) w4 fun n6 =>
  br ((n6 : Int) == 1) (
  ldI .i64 ((⟨k1, 0, none⟩ : Addr).add 21) w4 fun n7 =>
  br (decide ((n7 : Int) < 0)) (
  R (.bool false) w4) (
  ldI .i64 ((⟨k1, 0, none⟩ : Addr).add 21) w4 fun n8 =>
  br (decide ((n8 : Int) ≥ 8)) (
  R (.bool false) w4) (
  ldS ((⟨k1, 0, none⟩ : Addr).add 24) w4 fun p9 l9 c9 =>
  br (decide ((l9 : Int) > 1)) (
  R (.bool false) w4) (
  ldS ((⟨k1, 0, none⟩ : Addr).add 24) w4 fun p10 l10 c10 =>
  br ((l10 : Int) == 1) (
  ldS ((⟨k1, 0, none⟩ : Addr).add 24) w4 fun p11 l11 c11 =>
  idx p11 l11 0 36 fun a12 =>
  ldA a12 36 w4 fun g13 =>
  call Try.prog 44 #[.agg g13] w4 fun v14 w5 =>
  asI .i64 v14 fun n15 =>
  br ((n15 : Int) != 0) (
  R (.bool false) w5) (
  ldI .i64 ((⟨k1, 0, none⟩ : Addr).add 23) w5 fun n16 =>
  stA Try.prog (⟨k5, 0, none⟩ : Addr) 25 #[.int .i64 0, .int .i64 0, .int .i64 0, .int .u64 0, .int .u64 0, .int .u8 0, .int .u8 0, .int .u8 0, .int .u8 0, .int .u8 0, .int .u8 0, .int .u8 0, .int .u8 0, .int .u8 0, .int .u8 0, .int .u8 0, .int .u8 0, .int .u8 0, .int .u8 0, .int .u8 0, .int .u8 0, .int .i64 0, .int .i64 0, .int .i64 n16, .slice none 0 0] w5 fun w6 =>
  ldA (⟨k5, 0, none⟩ : Addr) 25 w6 fun g17 =>
  call Try.prog 20 #[.agg g17, .agg #[.int .i64 0, .int .i64 0, .int .i64 0, .int .u64 0, .int .u64 0, .int .u8 0, .int .u8 0, .int .u8 0, .int .u8 0, .int .u8 0, .int .u8 0, .int .u8 0, .int .u8 0, .int .u8 0, .int .u8 0, .int .u8 0, .int .u8 0, .int .u8 0, .int .u8 0, .int .u8 0, .int .u8 0, .int .i64 0, .int .i64 0, .int .i64 0, .slice none 0 0]] w6 fun v18 w7 =>
  asB v18 fun b19 =>
  R (.bool b19) w7)) (
  ldI .i64 ((⟨k1, 0, none⟩ : Addr).add 23) w4 fun n20 =>
  stA Try.prog (⟨k5, 0, none⟩ : Addr) 25 #[.int .i64 0, .int .i64 0, .int .i64 0, .int .u64 0, .int .u64 0, .int .u8 0, .int .u8 0, .int .u8 0, .int .u8 0, .int .u8 0, .int .u8 0, .int .u8 0, .int .u8 0, .int .u8 0, .int .u8 0, .int .u8 0, .int .u8 0, .int .u8 0, .int .u8 0, .int .u8 0, .int .u8 0, .int .i64 0, .int .i64 0, .int .i64 n20, .slice none 0 0] w4 fun w8 =>
  ldA (⟨k5, 0, none⟩ : Addr) 25 w8 fun g21 =>
  call Try.prog 20 #[.agg g21, .agg #[.int .i64 0, .int .i64 0, .int .i64 0, .int .u64 0, .int .u64 0, .int .u8 0, .int .u8 0, .int .u8 0, .int .u8 0, .int .u8 0, .int .u8 0, .int .u8 0, .int .u8 0, .int .u8 0, .int .u8 0, .int .u8 0, .int .u8 0, .int .u8 0, .int .u8 0, .int .u8 0, .int .u8 0, .int .i64 0, .int .i64 0, .int .i64 0, .slice none 0 0]] w8 fun v22 w9 =>
  asB v22 fun b23 =>
  R (.bool b23) w9))))) (
  br ((n6 : Int) == 2) (
  ldI .i64 ((⟨k1, 0, none⟩ : Addr).add 23) w4 fun n24 =>
  br (decide ((n24 : Int) < 0)) (
  R (.bool false) w4) (
  ldI .i64 ((⟨k1, 0, none⟩ : Addr).add 23) w4 fun n25 =>
  br (decide ((n25 : Int) > 20)) (
  R (.bool false) w4) (
  st ((⟨k5, 0, none⟩ : Addr).add 4) (.int .u64 0) w4 fun w10 =>
  st ((⟨k5, 0, none⟩ : Addr).add 23) (.int .i64 0) w10 fun w11 =>
  st ((⟨k5, 0, none⟩ : Addr).add 22) (.int .i64 0) w11 fun w12 =>
  ldA (⟨k5, 0, none⟩ : Addr) 25 w12 fun g26 =>
  call Try.prog 20 #[.agg g26, .agg #[.int .i64 0, .int .i64 0, .int .i64 0, .int .u64 0, .int .u64 0, .int .u8 0, .int .u8 0, .int .u8 0, .int .u8 0, .int .u8 0, .int .u8 0, .int .u8 0, .int .u8 0, .int .u8 0, .int .u8 0, .int .u8 0, .int .u8 0, .int .u8 0, .int .u8 0, .int .u8 0, .int .u8 0, .int .i64 0, .int .i64 0, .int .i64 0, .slice none 0 0]] w12 fun v27 w13 =>
  asB v27 fun b28 =>
  R (.bool b28) w13))) (
  ∃ J29 : Bool → World → Prop, (
  br ((n6 : Int) == 3) (
  J29 ((n6 : Int) == 3) w4) (
  J29 ((n6 : Int) == 4) w4)) ∧
  ∀ (u30 : Nat → Value) (b31 : Bool) (w14 : World), J29 b31 w14 →
  br b31 (
  ldI .i64 ((⟨k1, 0, none⟩ : Addr).add 22) w14 fun n32 =>
  br (decide ((n32 : Int) < 1)) (
  R (.bool false) w14) (
  ldI .i64 ((⟨k1, 0, none⟩ : Addr).add 22) w14 fun n33 =>
  br (decide ((n33 : Int) > 4294967295)) (
  R (.bool false) w14) (
  stA Try.prog ((⟨k5, 0, none⟩ : Addr).add 5) 16 #[.int .u8 0, .int .u8 0, .int .u8 0, .int .u8 0, .int .u8 0, .int .u8 0, .int .u8 0, .int .u8 0, .int .u8 0, .int .u8 0, .int .u8 0, .int .u8 0, .int .u8 0, .int .u8 0, .int .u8 0, .int .u8 0] w14 fun w15 =>
  st ((⟨k5, 0, none⟩ : Addr).add 22) (.int .i64 0) w15 fun w16 =>
  ldA (⟨k5, 0, none⟩ : Addr) 25 w16 fun g34 =>
  call Try.prog 20 #[.agg g34, .agg #[.int .i64 0, .int .i64 0, .int .i64 0, .int .u64 0, .int .u64 0, .int .u8 0, .int .u8 0, .int .u8 0, .int .u8 0, .int .u8 0, .int .u8 0, .int .u8 0, .int .u8 0, .int .u8 0, .int .u8 0, .int .u8 0, .int .u8 0, .int .u8 0, .int .u8 0, .int .u8 0, .int .u8 0, .int .i64 0, .int .i64 0, .int .i64 0, .slice none 0 0]] w16 fun v35 w17 =>
  asB v35 fun b36 =>
  R (.bool b36) w17))) (
  br ((n6 : Int) == 5) (
  ldA (⟨k5, 0, none⟩ : Addr) 25 w14 fun g37 =>
  call Try.prog 20 #[.agg g37, .agg #[.int .i64 0, .int .i64 0, .int .i64 0, .int .u64 0, .int .u64 0, .int .u8 0, .int .u8 0, .int .u8 0, .int .u8 0, .int .u8 0, .int .u8 0, .int .u8 0, .int .u8 0, .int .u8 0, .int .u8 0, .int .u8 0, .int .u8 0, .int .u8 0, .int .u8 0, .int .u8 0, .int .u8 0, .int .i64 0, .int .i64 0, .int .i64 0, .slice none 0 0]] w14 fun v38 w18 =>
  asB v38 fun b39 =>
  R (.bool b39) w18) (
  R (.bool false) w14))))
@[irreducible] def packet_right_ann : Ann := .seq .none (.seq .none (.seq (.seq .none (.one (.seq .none (.seq .none (.seq .none (.seq .none (.meet [(54, .bool)] .none .none))))))) .none))
theorem packet_right_call {x0 : Array Value} {R : Value → World → Prop} {w : World} (h : packet_right x0 R w) : call Try.prog 28 #[.agg x0] w R :=
  call_of_fnW plain mixed Try.func28 packet_right_ann (Eq.mp (by kernel_rfl : packet_right x0 R w = fnW Try.prog Try.f28 packet_right_ann #[.agg x0] R w) h)

def tenonref05_Num (x0 : Option Addr) (y0 z0 : Nat) (x1 : Int) (x2 : Int) (R : Value → World → Prop) (w : World) : Prop :=
  runsS Try.prog (Builtin.append_ #[30, 30] 30 #[.slice none 0 0, .slice x0 y0 z0]) w fun p1 l1 c1 w1 =>
  ∃ I2 : Option Addr → Nat → Nat → World → Nat → Prop, (∃ m3, I2 p1 l1 c1 w1 m3) ∧
  ∀ (u4 : Nat → Value) (p5 : Option Addr) (l5 c5 : Nat) (w2 : World) (m6 : Nat), I2 p5 l5 c5 w2 m6 →
  rem ((l5 : Int)) x2 fun n7 =>
  br ((n7 : Int) != 0) (
  new #[.int .u8 0] 5 w2 fun k8 w3 =>
  runsS Try.prog (Builtin.append_ #[30, 30] 30 #[.slice p5 l5 c5, .slice (some (⟨k8, 0, none⟩ : Addr)) 1 1]) w3 fun p9 l9 c9 w4 =>
  ∃ m10, m10 < m6 ∧ I2 p9 l9 c9 w4 m10) (
  ∃ I11 : Int → Option Addr → Nat → Nat → Int → World → Nat → Prop, (∃ m12, I11 x1 p5 l5 c5 0 w2 m12) ∧
  ∀ (u13 : Nat → Value) (n14 : Int) (p15 : Option Addr) (l15 c15 : Nat) (n16 : Int) (w5 : World) (m17 : Nat), I11 n14 p15 l15 c15 n16 w5 m17 →
  br (decide ((n16 : Int) < x2)) (
  rem n14 256 fun n18 =>
  arith .u8 n18 fun n19 =>
  new #[.int .u8 n19] 5 w5 fun k20 w6 =>
  runsS Try.prog (Builtin.append_ #[30, 30] 30 #[.slice p15 l15 c15, .slice (some (⟨k20, 0, none⟩ : Addr)) 1 1]) w6 fun p21 l21 c21 w7 =>
  quo .u64 n14 256 fun n22 =>
  arith .i64 (n16 + 1) fun n23 =>
  ∃ m24, m24 < m17 ∧ I11 n22 p21 l21 c21 n23 w7 m24) (
  R (.slice p15 l15 c15) w5))
@[irreducible] def tenonref05_Num_ann : Ann := .seq .none (.seq .none (.seq .none (.seq (.one (.loop [(7, .slice)] .none)) (.seq (.seq .none (.one (.loop [(1, .int .u64), (7, .slice), (8, .int .i64)] .none))) .none))))
theorem tenonref05_Num_call {x0 : Option Addr} {y0 z0 : Nat} {x1 : Int} {x2 : Int} {R : Value → World → Prop} {w : World} (h : tenonref05_Num x0 y0 z0 x1 x2 R w) : call Try.prog 29 #[.slice x0 y0 z0, .int .u64 x1, .int .i64 x2] w R :=
  call_of_fnW plain mixed Try.func29 tenonref05_Num_ann (Eq.mp (by kernel_rfl : tenonref05_Num x0 y0 z0 x1 x2 R w = fnW Try.prog Try.f29 tenonref05_Num_ann #[.slice x0 y0 z0, .int .u64 x1, .int .i64 x2] R w) h)

def tenonref07_Encode (x0 : Option Addr) (y0 z0 : Nat) (x1 : Array Value) (R : Value → World → Prop) (w : World) : Prop :=
  new x1 55 w fun k1 w1 =>
  runsS Try.prog (Builtin.append_ #[30, 30] 30 #[.slice none 0 0, .slice x0 y0 z0]) w1 fun p2 l2 c2 w2 =>
  new #[.int .u8 77, .int .u8 69, .int .u8 79, .int .u8 87] 5 w2 fun k3 w3 =>
  runsS Try.prog (Builtin.append_ #[30, 30] 30 #[.slice p2 l2 c2, .slice (some (⟨k3, 0, none⟩ : Addr)) 4 4]) w3 fun p4 l4 c4 w4 =>
  ldI .u32 ((⟨k1, 0, none⟩ : Addr).add 0) w4 fun n5 =>
  arith .u64 n5 fun n6 =>
  call Try.prog 29 #[.slice p4 l4 c4, .int .u64 n6, .int .i64 4] w4 fun v7 w5 =>
  asS v7 fun p8 l8 c8 =>
  ldI .u32 ((⟨k1, 0, none⟩ : Addr).add 1) w5 fun n9 =>
  arith .u64 n9 fun n10 =>
  call Try.prog 29 #[.slice p8 l8 c8, .int .u64 n10, .int .i64 4] w5 fun v11 w6 =>
  asS v11 fun p12 l12 c12 =>
  new #[.int .u8 0, .int .u8 0, .int .u8 0, .int .u8 0] 5 w6 fun k13 w7 =>
  runsS Try.prog (Builtin.append_ #[30, 30] 30 #[.slice p12 l12 c12, .slice (some (⟨k13, 0, none⟩ : Addr)) 4 4]) w7 fun p14 l14 c14 w8 =>
  ldI .u64 ((⟨k1, 0, none⟩ : Addr).add 2) w8 fun n15 =>
  call Try.prog 29 #[.slice p14 l14 c14, .int .u64 n15, .int .i64 8] w8 fun v16 w9 =>
  asS v16 fun p17 l17 c17 =>
  ldI .u64 ((⟨k1, 0, none⟩ : Addr).add 3) w9 fun n18 =>
  call Try.prog 29 #[.slice p17 l17 c17, .int .u64 n18, .int .i64 8] w9 fun v19 w10 =>
  asS v19 fun p20 l20 c20 =>
  slc (some ((⟨k1, 0, none⟩ : Addr).add 4)) 16 1 0 ((16 : Int)) fun p21 l21 c21 =>
  runsS Try.prog (Builtin.append_ #[30, 30] 30 #[.slice p20 l20 c20, .slice p21 l21 c21]) w10 fun p22 l22 c22 w11 =>
  slc (some ((⟨k1, 0, none⟩ : Addr).add 20)) 16 1 0 ((16 : Int)) fun p23 l23 c23 =>
  runsS Try.prog (Builtin.append_ #[30, 30] 30 #[.slice p22 l22 c22, .slice p23 l23 c23]) w11 fun p24 l24 c24 w12 =>
  R (.slice p24 l24 c24) w12
@[irreducible] def tenonref07_Encode_ann : Ann := .none
theorem tenonref07_Encode_call {x0 : Option Addr} {y0 z0 : Nat} {x1 : Array Value} {R : Value → World → Prop} {w : World} (h : tenonref07_Encode x0 y0 z0 x1 R w) : call Try.prog 30 #[.slice x0 y0 z0, .agg x1] w R :=
  call_of_fnW plain mixed Try.func30 tenonref07_Encode_ann (Eq.mp (by kernel_rfl : tenonref07_Encode x0 y0 z0 x1 R w = fnW Try.prog Try.f30 tenonref07_Encode_ann #[.slice x0 y0 z0, .agg x1] R w) h)

def wire_NewReader (x0 : Option Addr) (y0 z0 : Nat) (R : Value → World → Prop) (w : World) : Prop :=
  call Try.prog 43 #[.slice x0 y0 z0] w fun v1 w1 =>
  asS v1 fun p2 l2 c2 =>
  new #[.slice p2 l2 c2, .int .i64 0] 81 w1 fun k3 w2 =>
  R (.pointer (some (⟨k3, 0, none⟩ : Addr))) w2
@[irreducible] def wire_NewReader_ann : Ann := .none
theorem wire_NewReader_call {x0 : Option Addr} {y0 z0 : Nat} {R : Value → World → Prop} {w : World} (h : wire_NewReader x0 y0 z0 R w) : call Try.prog 31 #[.slice x0 y0 z0] w R :=
  call_of_fnW plain mixed Try.func31 wire_NewReader_ann (Eq.mp (by kernel_rfl : wire_NewReader x0 y0 z0 R w = fnW Try.prog Try.f31 wire_NewReader_ann #[.slice x0 y0 z0] R w) h)

def packet_Decode_1 (x0 : Int) (x1 : Addr) (R : Value → World → Prop) (w : World) : Prop :=
  ldP x1 w fun p1 =>
  call Try.prog 33 #[.pointer p1, .int .i64 x0] w fun v2 w1 =>
  ∃ (n3 : Int) (n4 : Int),
  v2 = .tuple #[.int .u64 n3, .int .i64 n4] ∧
  R (.int .u64 n3) w1
@[irreducible] def packet_Decode_1_ann : Ann := .none
theorem packet_Decode_1_call {x0 : Int} {x1 : Addr} {R : Value → World → Prop} {w : World} (h : packet_Decode_1 x0 x1 R w) : call Try.prog 32 #[.int .i64 x0, .pointer (some x1)] w R :=
  call_of_fnW plain mixed Try.func32 packet_Decode_1_ann (Eq.mp (by kernel_rfl : packet_Decode_1 x0 x1 R w = fnW Try.prog Try.f32 packet_Decode_1_ann #[.int .i64 x0, .pointer (some x1)] R w) h)

def wire_Reader_Num (x0 : Option Addr) (x1 : Int) (R : Value → World → Prop) (w : World) : Prop :=
  call Try.prog 41 #[.int .i64 x1] w fun v1 w1 =>
  asB v1 fun b2 =>
  br (!b2) (
  R (.tuple #[.int .u64 0, .int .i64 1]) w1) (
  br x0.isNone (
  R (.tuple #[.int .u64 0, .int .i64 6]) w1) (
  nn x0 fun a3 =>
  ldI .i64 (a3.add 1) w1 fun n4 =>
  call Try.prog 42 #[.int .i64 n4, .int .i64 x1] w1 fun v5 w2 =>
  asI .i64 v5 fun n6 =>
  nn x0 fun a7 =>
  ldS (a7.add 0) w2.drew fun p8 l8 c8 =>
  nn x0 fun a9 =>
  ldI .i64 (a9.add 1) w2.drew fun n10 =>
  arith .i64 ((l8 : Int) - n10) fun n11 =>
  arith .i64 (n6 + x1) fun n12 =>
  br (decide ((n11 : Int) < n12)) (
  R (.tuple #[.int .u64 0, .int .i64 6]) w2.drew) (
  nn x0 fun a13 =>
  ldS (a13.add 0) w2.drew.drew fun p14 l14 c14 =>
  nn x0 fun a15 =>
  ldI .i64 (a15.add 1) w2.drew.drew fun n16 =>
  nn x0 fun a17 =>
  ldI .i64 (a17.add 1) w2.drew.drew fun n18 =>
  arith .i64 (n18 + n6) fun n19 =>
  slc p14 c14 1 n16 n19 fun p20 l20 c20 =>
  ∃ I21 : Int → World → Nat → Prop, (∃ m22, I21 0 w2.drew.drew m22) ∧
  ∀ (u23 : Nat → Value) (n24 : Int) (w3 : World) (m25 : Nat), I21 n24 w3 m25 →
  br (decide ((n24 : Int) < (l20 : Int))) (
  idx p20 l20 n24 1 fun a26 =>
  ldI .u8 a26 w3 fun n27 =>
  br ((n27 : Int) != 0) (
  R (.tuple #[.int .u64 0, .int .i64 5]) w3) (
  arith .i64 (n24 + 1) fun n28 =>
  ∃ m29, m29 < m25 ∧ I21 n28 w3 m29)) (
  ∃ I30 : Int → Int → World → Nat → Prop, (∃ m31, I30 0 0 w3 m31) ∧
  ∀ (u32 : Nat → Value) (n33 : Int) (n34 : Int) (w4 : World) (m35 : Nat), I30 n33 n34 w4 m35 →
  br (decide ((n34 : Int) < x1)) (
  nn x0 fun a36 =>
  ldS (a36.add 0) w4.drew fun p37 l37 c37 =>
  nn x0 fun a38 =>
  ldI .i64 (a38.add 1) w4.drew fun n39 =>
  arith .i64 (n39 + n6) fun n40 =>
  arith .i64 (n40 + n34) fun n41 =>
  idx p37 l37 n41 1 fun a42 =>
  ldI .u8 a42 w4.drew fun n43 =>
  arith .u64 n43 fun n44 =>
  arith .i64 (8 * n34) fun n45 =>
  shl .u64 n44 n45 fun n46 =>
  arith .i64 (n34 + 1) fun n47 =>
  ∃ m48, m48 < m35 ∧ I30 (bitw .or .u64 n33 n46) n47 w4.drew m48) (
  nn x0 fun a49 =>
  ldI .i64 (a49.add 1) w4 fun n50 =>
  arith .i64 (n6 + x1) fun n51 =>
  arith .i64 (n50 + n51) fun n52 =>
  nn x0 fun a53 =>
  st (a53.add 1) (.int .i64 n52) w4 fun w5 =>
  R (.tuple #[.int .u64 n33, .int .i64 0]) w5)))))
@[irreducible] def wire_Reader_Num_ann : Ann := .seq .none (.seq .none (.seq .none (.seq .none (.seq (.seq (.draw [[], [0], [0, 1], [0, 1, 2], [0, 1, 2, 3], [], [5], [5, 6], [5, 6, 7], [0, 1, 2, 3, 4, 5, 6, 7, 8], [], [], [10, 11], [0, 1, 2, 3, 4, 5, 6, 7, 8, 9, 10, 11, 12]] (ol [0, 1, 2, 3, 4, 5, 6, 7, 8, 9, 10, 11, 12, 13] .nil)) .none) (.seq (.seq (.draw [[], [0], [0, 1], [0, 1, 2], [], [4], [4, 5], [4, 5, 6], [], [8], [8, 9], [8, 9, 10], [], [8, 9, 10, 11, 12], [0, 1, 2, 3, 4, 5, 6, 7, 8, 9, 10, 11, 12, 13], [0, 1, 2, 3, 4, 5, 6, 7, 8, 9, 10, 11, 12, 13, 14], []] (ol [0, 1, 2, 3, 4, 5, 6, 7, 8, 9, 10, 11, 12, 13, 14, 15, 16] .nil)) (.one (.loop [(52, .int .i64)] .none))) (.seq .none (.seq (.seq .none (.one (.loop [(9, .int .u64), (60, .int .i64)] (.seq .none (.seq .none (.seq (.one (.seq .none (.draw [[], [], [1], [1, 2], [1, 2, 3], [], [5], [5, 6], [5, 6, 7], [], [5, 6, 7, 8, 9], [], [5, 6, 7, 8, 9, 10, 11], [1, 2, 3, 4, 5, 6, 7, 8, 9, 10, 11, 12], [1, 2, 3, 4, 5, 6, 7, 8, 9, 10, 11, 12, 13], [1, 2, 3, 4, 5, 6, 7, 8, 9, 10, 11, 12, 13, 14], [], [16], [1, 2, 3, 4, 5, 6, 7, 8, 9, 10, 11, 12, 13, 14, 15, 16, 17], [0, 1, 2, 3, 4, 5, 6, 7, 8, 9, 10, 11, 12, 13, 14, 15, 16, 17, 18], [0, 1, 2, 3, 4, 5, 6, 7, 8, 9, 10, 11, 12, 13, 14, 15, 16, 17, 18, 19]] (ol [0, 1, 2, 3, 4, 5, 6, 7, 8, 9, 10, 11, 12, 13, 14, 15, 16, 17, 18, 19, 20] .nil)))) .none)))))) .none)))))))
theorem wire_Reader_Num_call {x0 : Option Addr} {x1 : Int} {R : Value → World → Prop} {w : World} (h : wire_Reader_Num x0 x1 R w) : call Try.prog 33 #[.pointer x0, .int .i64 x1] w R :=
  call_of_fnW plain mixed Try.func33 wire_Reader_Num_ann (Eq.mp (by kernel_rfl : wire_Reader_Num x0 x1 R w = fnW Try.prog Try.f33 wire_Reader_Num_ann #[.pointer x0, .int .i64 x1] R w) h)

def objref_Decode (x0 : Option Addr) (y0 z0 : Nat) (R : Value → World → Prop) (w : World) : Prop :=
  new #[.int .u32 0, .int .u32 0, .int .u64 0, .int .u64 0, .int .u8 0, .int .u8 0, .int .u8 0, .int .u8 0, .int .u8 0, .int .u8 0, .int .u8 0, .int .u8 0, .int .u8 0, .int .u8 0, .int .u8 0, .int .u8 0, .int .u8 0, .int .u8 0, .int .u8 0, .int .u8 0, .int .u8 0, .int .u8 0, .int .u8 0, .int .u8 0, .int .u8 0, .int .u8 0, .int .u8 0, .int .u8 0, .int .u8 0, .int .u8 0, .int .u8 0, .int .u8 0, .int .u8 0, .int .u8 0, .int .u8 0, .int .u8 0] 55 w fun k1 w1 =>
  br (decide ((y0 : Int) < 64)) (
  stA Try.prog (⟨k1, 0, none⟩ : Addr) 36 #[.int .u32 0, .int .u32 0, .int .u64 0, .int .u64 0, .int .u8 0, .int .u8 0, .int .u8 0, .int .u8 0, .int .u8 0, .int .u8 0, .int .u8 0, .int .u8 0, .int .u8 0, .int .u8 0, .int .u8 0, .int .u8 0, .int .u8 0, .int .u8 0, .int .u8 0, .int .u8 0, .int .u8 0, .int .u8 0, .int .u8 0, .int .u8 0, .int .u8 0, .int .u8 0, .int .u8 0, .int .u8 0, .int .u8 0, .int .u8 0, .int .u8 0, .int .u8 0, .int .u8 0, .int .u8 0, .int .u8 0, .int .u8 0] w1 fun w2 =>
  ldA (⟨k1, 0, none⟩ : Addr) 36 w2 fun g2 =>
  R (.tuple #[.agg g2, .int .i64 6]) w2) (
  call Try.prog 31 #[.slice x0 y0 z0] w1 fun v3 w3 =>
  asP v3 fun p4 =>
  new #[.int .u64 0, .int .u64 0, .int .u64 0, .int .u64 0] 82 w3 fun k5 w4 =>
  ∃ I6 : Int → World → Nat → Prop, (∃ m7, I6 0 w4 m7) ∧
  ∀ (u8 : Nat → Value) (n9 : Int) (w5 : World) (m10 : Nat), I6 n9 w5 m10 →
  br (decide ((n9 : Int) < 4)) (
  call Try.prog 33 #[.pointer p4, .int .i64 4] w5 fun v11 w6 =>
  ∃ (n12 : Int) (n13 : Int),
  v11 = .tuple #[.int .u64 n12, .int .i64 n13] ∧
  idxA (⟨k5, 0, none⟩ : Addr) 4 n9 1 fun a14 =>
  st a14 (.int .u64 n12) w6 fun w7 =>
  arith .i64 (n9 + 1) fun n15 =>
  ∃ m16, m16 < m10 ∧ I6 n15 w7 m16) (
  idxA (⟨k5, 0, none⟩ : Addr) 4 1 1 fun a17 =>
  ldI .u64 a17 w5 fun n18 =>
  arith .u32 n18 fun n19 =>
  idxA (⟨k5, 0, none⟩ : Addr) 4 2 1 fun a20 =>
  ldI .u64 a20 w5 fun n21 =>
  arith .u32 n21 fun n22 =>
  new #[.int .u32 0, .int .u32 0, .int .u64 0, .int .u64 0, .int .u8 0, .int .u8 0, .int .u8 0, .int .u8 0, .int .u8 0, .int .u8 0, .int .u8 0, .int .u8 0, .int .u8 0, .int .u8 0, .int .u8 0, .int .u8 0, .int .u8 0, .int .u8 0, .int .u8 0, .int .u8 0, .int .u8 0, .int .u8 0, .int .u8 0, .int .u8 0, .int .u8 0, .int .u8 0, .int .u8 0, .int .u8 0, .int .u8 0, .int .u8 0, .int .u8 0, .int .u8 0, .int .u8 0, .int .u8 0, .int .u8 0, .int .u8 0] 55 w5 fun k23 w8 =>
  stA Try.prog (⟨k23, 0, none⟩ : Addr) 36 #[.int .u32 n19, .int .u32 n22, .int .u64 0, .int .u64 0, .int .u8 0, .int .u8 0, .int .u8 0, .int .u8 0, .int .u8 0, .int .u8 0, .int .u8 0, .int .u8 0, .int .u8 0, .int .u8 0, .int .u8 0, .int .u8 0, .int .u8 0, .int .u8 0, .int .u8 0, .int .u8 0, .int .u8 0, .int .u8 0, .int .u8 0, .int .u8 0, .int .u8 0, .int .u8 0, .int .u8 0, .int .u8 0, .int .u8 0, .int .u8 0, .int .u8 0, .int .u8 0, .int .u8 0, .int .u8 0, .int .u8 0, .int .u8 0] w8 fun w9 =>
  call Try.prog 33 #[.pointer p4, .int .i64 8] w9 fun v24 w10 =>
  ∃ (n25 : Int) (n26 : Int),
  v24 = .tuple #[.int .u64 n25, .int .i64 n26] ∧
  st ((⟨k23, 0, none⟩ : Addr).add 2) (.int .u64 n25) w10 fun w11 =>
  call Try.prog 33 #[.pointer p4, .int .i64 8] w11 fun v27 w12 =>
  ∃ (n28 : Int) (n29 : Int),
  v27 = .tuple #[.int .u64 n28, .int .i64 n29] ∧
  st ((⟨k23, 0, none⟩ : Addr).add 3) (.int .u64 n28) w12 fun w13 =>
  call Try.prog 46 #[.pointer p4] w13 fun v30 w14 =>
  asA v30 fun g31 =>
  stA Try.prog ((⟨k23, 0, none⟩ : Addr).add 4) 16 g31 w14 fun w15 =>
  call Try.prog 46 #[.pointer p4] w15 fun v32 w16 =>
  asA v32 fun g33 =>
  stA Try.prog ((⟨k23, 0, none⟩ : Addr).add 20) 16 g33 w16 fun w17 =>
  idxA (⟨k5, 0, none⟩ : Addr) 4 0 1 fun a34 =>
  ldI .u64 a34 w17 fun n35 =>
  br ((n35 : Int) != 1464812877) (
  stA Try.prog (⟨k1, 0, none⟩ : Addr) 36 #[.int .u32 0, .int .u32 0, .int .u64 0, .int .u64 0, .int .u8 0, .int .u8 0, .int .u8 0, .int .u8 0, .int .u8 0, .int .u8 0, .int .u8 0, .int .u8 0, .int .u8 0, .int .u8 0, .int .u8 0, .int .u8 0, .int .u8 0, .int .u8 0, .int .u8 0, .int .u8 0, .int .u8 0, .int .u8 0, .int .u8 0, .int .u8 0, .int .u8 0, .int .u8 0, .int .u8 0, .int .u8 0, .int .u8 0, .int .u8 0, .int .u8 0, .int .u8 0, .int .u8 0, .int .u8 0, .int .u8 0, .int .u8 0] w17 fun w18 =>
  ldA (⟨k1, 0, none⟩ : Addr) 36 w18 fun g36 =>
  R (.tuple #[.agg g36, .int .i64 5]) w18) (
  idxA (⟨k5, 0, none⟩ : Addr) 4 3 1 fun a37 =>
  ldI .u64 a37 w17 fun n38 =>
  br ((n38 : Int) != 0) (
  stA Try.prog (⟨k1, 0, none⟩ : Addr) 36 #[.int .u32 0, .int .u32 0, .int .u64 0, .int .u64 0, .int .u8 0, .int .u8 0, .int .u8 0, .int .u8 0, .int .u8 0, .int .u8 0, .int .u8 0, .int .u8 0, .int .u8 0, .int .u8 0, .int .u8 0, .int .u8 0, .int .u8 0, .int .u8 0, .int .u8 0, .int .u8 0, .int .u8 0, .int .u8 0, .int .u8 0, .int .u8 0, .int .u8 0, .int .u8 0, .int .u8 0, .int .u8 0, .int .u8 0, .int .u8 0, .int .u8 0, .int .u8 0, .int .u8 0, .int .u8 0, .int .u8 0, .int .u8 0] w17 fun w19 =>
  ldA (⟨k1, 0, none⟩ : Addr) 36 w19 fun g39 =>
  R (.tuple #[.agg g39, .int .i64 5]) w19) (
  call Try.prog 47 #[.pointer p4] w17 fun v40 w20 =>
  asI .i64 v40 fun n41 =>
  br ((n41 : Int) != 0) (
  stA Try.prog (⟨k1, 0, none⟩ : Addr) 36 #[.int .u32 0, .int .u32 0, .int .u64 0, .int .u64 0, .int .u8 0, .int .u8 0, .int .u8 0, .int .u8 0, .int .u8 0, .int .u8 0, .int .u8 0, .int .u8 0, .int .u8 0, .int .u8 0, .int .u8 0, .int .u8 0, .int .u8 0, .int .u8 0, .int .u8 0, .int .u8 0, .int .u8 0, .int .u8 0, .int .u8 0, .int .u8 0, .int .u8 0, .int .u8 0, .int .u8 0, .int .u8 0, .int .u8 0, .int .u8 0, .int .u8 0, .int .u8 0, .int .u8 0, .int .u8 0, .int .u8 0, .int .u8 0] w20 fun w21 =>
  ldA (⟨k1, 0, none⟩ : Addr) 36 w21 fun g42 =>
  R (.tuple #[.agg g42, .int .i64 5]) w21) (
  ldA (⟨k23, 0, none⟩ : Addr) 36 w20 fun g43 =>
  call Try.prog 44 #[.agg g43] w20 fun v44 w22 =>
  asI .i64 v44 fun n45 =>
  br ((n45 : Int) != 0) (
  stA Try.prog (⟨k1, 0, none⟩ : Addr) 36 #[.int .u32 0, .int .u32 0, .int .u64 0, .int .u64 0, .int .u8 0, .int .u8 0, .int .u8 0, .int .u8 0, .int .u8 0, .int .u8 0, .int .u8 0, .int .u8 0, .int .u8 0, .int .u8 0, .int .u8 0, .int .u8 0, .int .u8 0, .int .u8 0, .int .u8 0, .int .u8 0, .int .u8 0, .int .u8 0, .int .u8 0, .int .u8 0, .int .u8 0, .int .u8 0, .int .u8 0, .int .u8 0, .int .u8 0, .int .u8 0, .int .u8 0, .int .u8 0, .int .u8 0, .int .u8 0, .int .u8 0, .int .u8 0] w22 fun w23 =>
  ldA (⟨k1, 0, none⟩ : Addr) 36 w23 fun g46 =>
  R (.tuple #[.agg g46, .int .i64 5]) w23) (
  ldA (⟨k23, 0, none⟩ : Addr) 36 w22 fun g47 =>
  stA Try.prog (⟨k1, 0, none⟩ : Addr) 36 g47 w22 fun w24 =>
  ldA (⟨k1, 0, none⟩ : Addr) 36 w24 fun g48 =>
  R (.tuple #[.agg g48, .int .i64 0]) w24))))))
@[irreducible] def objref_Decode_ann : Ann := .seq .none (.seq .none (.seq .none (.seq .none (.seq (.seq .none (.one (.loop [(14, .int .i64)] .none))) .none))))
theorem objref_Decode_call {x0 : Option Addr} {y0 z0 : Nat} {R : Value → World → Prop} {w : World} (h : objref_Decode x0 y0 z0 R w) : call Try.prog 34 #[.slice x0 y0 z0] w R :=
  call_of_fnW plain mixed Try.func34 objref_Decode_ann (Eq.mp (by kernel_rfl : objref_Decode x0 y0 z0 R w = fnW Try.prog Try.f34 objref_Decode_ann #[.slice x0 y0 z0] R w) h)

def wire_Reader_Left (x0 : Option Addr) (R : Value → World → Prop) (w : World) : Prop :=
  br x0.isNone (
  R (.int .i64 0) w) (
  nn x0 fun a1 =>
  ldS (a1.add 0) w.drew fun p2 l2 c2 =>
  nn x0 fun a3 =>
  ldI .i64 (a3.add 1) w.drew fun n4 =>
  arith .i64 ((l2 : Int) - n4) fun n5 =>
  R (.int .i64 n5) w.drew)
@[irreducible] def wire_Reader_Left_ann : Ann := .seq .none (.seq .none (.seq (.draw [[], [0], [0, 1], [0, 1, 2], [0, 1, 2, 3], [], [5], [5, 6], [5, 6, 7], [0, 1, 2, 3, 4, 5, 6, 7, 8], [0, 1, 2, 3, 4, 5, 6, 7, 8, 9]] (ol [0, 1, 2, 3, 4, 5, 6, 7, 8, 9, 10] .nil)) .none))
theorem wire_Reader_Left_call {x0 : Option Addr} {R : Value → World → Prop} {w : World} (h : wire_Reader_Left x0 R w) : call Try.prog 35 #[.pointer x0] w R :=
  call_of_fnW plain mixed Try.func35 wire_Reader_Left_ann (Eq.mp (by kernel_rfl : wire_Reader_Left x0 R w = fnW Try.prog Try.f35 wire_Reader_Left_ann #[.pointer x0] R w) h)

def bytes_Equal (x0 : Option Addr) (y0 z0 : Nat) (x1 : Option Addr) (y1 z1 : Nat) (R : Value → World → Prop) (w : World) : Prop :=
  runsT Try.prog (convert 30 9 (.slice x0 y0 z0)) w fun s1 w1 =>
  runsT Try.prog (convert 30 9 (.slice x1 y1 z1)) w1 fun s2 w2 =>
  R (.bool (s1.toList == s2.toList)) w2
@[irreducible] def bytes_Equal_ann : Ann := .none
theorem bytes_Equal_call {x0 : Option Addr} {y0 z0 : Nat} {x1 : Option Addr} {y1 z1 : Nat} {R : Value → World → Prop} {w : World} (h : bytes_Equal x0 y0 z0 x1 y1 z1 R w) : call Try.prog 36 #[.slice x0 y0 z0, .slice x1 y1 z1] w R :=
  call_of_fnW plain mixed Try.func36 bytes_Equal_ann (Eq.mp (by kernel_rfl : bytes_Equal x0 y0 z0 x1 y1 z1 R w = fnW Try.prog Try.f36 bytes_Equal_ann #[.slice x0 y0 z0, .slice x1 y1 z1] R w) h)

def tenonref08_num (x0 : Option Addr) (y0 z0 : Nat) (x1 : Int) (R : Value → World → Prop) (w : World) : Prop :=
  call Try.prog 48 #[.slice x0 y0 z0, .int .i64 x1, .int .i64 8] w fun v1 w1 =>
  ∃ (n2 : Int) (n3 : Int) (n4 : Int),
  v1 = .tuple #[.int .u64 n2, .int .i64 n3, .int .i64 n4] ∧
  br ((n4 : Int) != 0) (
  R (.int .u64 0) w1) (
  R (.int .u64 n2) w1)
@[irreducible] def tenonref08_num_ann : Ann := .none
theorem tenonref08_num_call {x0 : Option Addr} {y0 z0 : Nat} {x1 : Int} {R : Value → World → Prop} {w : World} (h : tenonref08_num x0 y0 z0 x1 R w) : call Try.prog 37 #[.slice x0 y0 z0, .int .i64 x1] w R :=
  call_of_fnW plain mixed Try.func37 tenonref08_num_ann (Eq.mp (by kernel_rfl : tenonref08_num x0 y0 z0 x1 R w = fnW Try.prog Try.f37 tenonref08_num_ann #[.slice x0 y0 z0, .int .i64 x1] R w) h)

def tenonref08_guid (x0 : Option Addr) (y0 z0 : Nat) (x1 : Int) (R : Value → World → Prop) (w : World) : Prop :=
  new #[.int .u8 0, .int .u8 0, .int .u8 0, .int .u8 0, .int .u8 0, .int .u8 0, .int .u8 0, .int .u8 0, .int .u8 0, .int .u8 0, .int .u8 0, .int .u8 0, .int .u8 0, .int .u8 0, .int .u8 0, .int .u8 0] 24 w fun k1 w1 =>
  new #[.int .u8 0, .int .u8 0, .int .u8 0, .int .u8 0, .int .u8 0, .int .u8 0, .int .u8 0, .int .u8 0, .int .u8 0, .int .u8 0, .int .u8 0, .int .u8 0, .int .u8 0, .int .u8 0, .int .u8 0, .int .u8 0] 24 w1 fun k2 w2 =>
  ∃ I3 : Int → World → Nat → Prop, (∃ m4, I3 0 w2 m4) ∧
  ∀ (u5 : Nat → Value) (n6 : Int) (w3 : World) (m7 : Nat), I3 n6 w3 m7 →
  br (decide ((n6 : Int) < 16)) (
  arith .i64 (x1 + n6) fun n8 =>
  br (decide ((n8 : Int) < (y0 : Int))) (
  arith .i64 (x1 + n6) fun n9 =>
  idx x0 y0 n9 1 fun a10 =>
  ldI .u8 a10 w3 fun n11 =>
  idxA (⟨k2, 0, none⟩ : Addr) 16 n6 1 fun a12 =>
  st a12 (.int .u8 n11) w3 fun w4 =>
  arith .i64 (n6 + 1) fun n13 =>
  ∃ m14, m14 < m7 ∧ I3 n13 w4 m14) (
  ldA (⟨k2, 0, none⟩ : Addr) 16 w3 fun g15 =>
  stA Try.prog (⟨k1, 0, none⟩ : Addr) 16 g15 w3 fun w5 =>
  ldA (⟨k1, 0, none⟩ : Addr) 16 w5 fun g16 =>
  R (.agg g16) w5)) (
  ldA (⟨k2, 0, none⟩ : Addr) 16 w3 fun g17 =>
  stA Try.prog (⟨k1, 0, none⟩ : Addr) 16 g17 w3 fun w6 =>
  ldA (⟨k1, 0, none⟩ : Addr) 16 w6 fun g18 =>
  R (.agg g18) w6)
@[irreducible] def tenonref08_guid_ann : Ann := .seq .none (.seq .none (.seq (.seq .none (.one (.loop [(6, .int .i64)] .none))) .none))
theorem tenonref08_guid_call {x0 : Option Addr} {y0 z0 : Nat} {x1 : Int} {R : Value → World → Prop} {w : World} (h : tenonref08_guid x0 y0 z0 x1 R w) : call Try.prog 38 #[.slice x0 y0 z0, .int .i64 x1] w R :=
  call_of_fnW plain mixed Try.func38 tenonref08_guid_ann (Eq.mp (by kernel_rfl : tenonref08_guid x0 y0 z0 x1 R w = fnW Try.prog Try.f38 tenonref08_guid_ann #[.slice x0 y0 z0, .int .i64 x1] R w) h)

def tenonref07_Decode (x0 : Option Addr) (y0 z0 : Nat) (R : Value → World → Prop) (w : World) : Prop :=
  new #[.int .u32 0, .int .u32 0, .int .u64 0, .int .u64 0, .int .u8 0, .int .u8 0, .int .u8 0, .int .u8 0, .int .u8 0, .int .u8 0, .int .u8 0, .int .u8 0, .int .u8 0, .int .u8 0, .int .u8 0, .int .u8 0, .int .u8 0, .int .u8 0, .int .u8 0, .int .u8 0, .int .u8 0, .int .u8 0, .int .u8 0, .int .u8 0, .int .u8 0, .int .u8 0, .int .u8 0, .int .u8 0, .int .u8 0, .int .u8 0, .int .u8 0, .int .u8 0, .int .u8 0, .int .u8 0, .int .u8 0, .int .u8 0] 55 w fun k1 w1 =>
  br (decide ((y0 : Int) < 64)) (
  stA Try.prog (⟨k1, 0, none⟩ : Addr) 36 #[.int .u32 0, .int .u32 0, .int .u64 0, .int .u64 0, .int .u8 0, .int .u8 0, .int .u8 0, .int .u8 0, .int .u8 0, .int .u8 0, .int .u8 0, .int .u8 0, .int .u8 0, .int .u8 0, .int .u8 0, .int .u8 0, .int .u8 0, .int .u8 0, .int .u8 0, .int .u8 0, .int .u8 0, .int .u8 0, .int .u8 0, .int .u8 0, .int .u8 0, .int .u8 0, .int .u8 0, .int .u8 0, .int .u8 0, .int .u8 0, .int .u8 0, .int .u8 0, .int .u8 0, .int .u8 0, .int .u8 0, .int .u8 0] w1 fun w2 =>
  ldA (⟨k1, 0, none⟩ : Addr) 36 w2 fun g2 =>
  R (.tuple #[.agg g2, .int .i64 6]) w2) (
  ∃ J3 : Addr → World → Prop, (
  slc x0 z0 1 4 8 fun p4 l4 c4 =>
  slc x0 z0 1 8 12 fun p5 l5 c5 =>
  slc x0 z0 1 16 24 fun p6 l6 c6 =>
  slc x0 z0 1 24 32 fun p7 l7 c7 =>
  (call Try.prog 49 #[.slice p4 l4 c4] w1.drew fun v8 w3 =>
  asI .u64 v8 fun n9 =>
  arith .u32 n9 fun n10 =>
  (call Try.prog 49 #[.slice p5 l5 c5] w3 fun v11 w4 =>
  asI .u64 v11 fun n12 =>
  arith .u32 n12 fun n13 =>
  (call Try.prog 49 #[.slice p6 l6 c6] w4 fun v14 w5 =>
  asI .u64 v14 fun n15 =>
  (call Try.prog 49 #[.slice p7 l7 c7] w5 fun v16 w6 =>
  asI .u64 v16 fun n17 =>
  new #[.int .u32 0, .int .u32 0, .int .u64 0, .int .u64 0, .int .u8 0, .int .u8 0, .int .u8 0, .int .u8 0, .int .u8 0, .int .u8 0, .int .u8 0, .int .u8 0, .int .u8 0, .int .u8 0, .int .u8 0, .int .u8 0, .int .u8 0, .int .u8 0, .int .u8 0, .int .u8 0, .int .u8 0, .int .u8 0, .int .u8 0, .int .u8 0, .int .u8 0, .int .u8 0, .int .u8 0, .int .u8 0, .int .u8 0, .int .u8 0, .int .u8 0, .int .u8 0, .int .u8 0, .int .u8 0, .int .u8 0, .int .u8 0] 55 w6 fun k18 w7 =>
  stA Try.prog (⟨k18, 0, none⟩ : Addr) 36 #[.int .u32 n10, .int .u32 n13, .int .u64 n15, .int .u64 n17, .int .u8 0, .int .u8 0, .int .u8 0, .int .u8 0, .int .u8 0, .int .u8 0, .int .u8 0, .int .u8 0, .int .u8 0, .int .u8 0, .int .u8 0, .int .u8 0, .int .u8 0, .int .u8 0, .int .u8 0, .int .u8 0, .int .u8 0, .int .u8 0, .int .u8 0, .int .u8 0, .int .u8 0, .int .u8 0, .int .u8 0, .int .u8 0, .int .u8 0, .int .u8 0, .int .u8 0, .int .u8 0, .int .u8 0, .int .u8 0, .int .u8 0, .int .u8 0] w7 fun w8 =>
  J3 (⟨k18, 0, none⟩ : Addr) w8) ∧
  (new #[.int .u32 0, .int .u32 0, .int .u64 0, .int .u64 0, .int .u8 0, .int .u8 0, .int .u8 0, .int .u8 0, .int .u8 0, .int .u8 0, .int .u8 0, .int .u8 0, .int .u8 0, .int .u8 0, .int .u8 0, .int .u8 0, .int .u8 0, .int .u8 0, .int .u8 0, .int .u8 0, .int .u8 0, .int .u8 0, .int .u8 0, .int .u8 0, .int .u8 0, .int .u8 0, .int .u8 0, .int .u8 0, .int .u8 0, .int .u8 0, .int .u8 0, .int .u8 0, .int .u8 0, .int .u8 0, .int .u8 0, .int .u8 0] 55 w5 fun k19 w9 =>
  call Try.prog 49 #[.slice p7 l7 c7] w9 fun v20 w10 =>
  asI .u64 v20 fun n21 =>
  stA Try.prog (⟨k19, 0, none⟩ : Addr) 36 #[.int .u32 n10, .int .u32 n13, .int .u64 n15, .int .u64 n21, .int .u8 0, .int .u8 0, .int .u8 0, .int .u8 0, .int .u8 0, .int .u8 0, .int .u8 0, .int .u8 0, .int .u8 0, .int .u8 0, .int .u8 0, .int .u8 0, .int .u8 0, .int .u8 0, .int .u8 0, .int .u8 0, .int .u8 0, .int .u8 0, .int .u8 0, .int .u8 0, .int .u8 0, .int .u8 0, .int .u8 0, .int .u8 0, .int .u8 0, .int .u8 0, .int .u8 0, .int .u8 0, .int .u8 0, .int .u8 0, .int .u8 0, .int .u8 0] w10 fun w11 =>
  J3 (⟨k19, 0, none⟩ : Addr) w11)) ∧
  (new #[.int .u32 0, .int .u32 0, .int .u64 0, .int .u64 0, .int .u8 0, .int .u8 0, .int .u8 0, .int .u8 0, .int .u8 0, .int .u8 0, .int .u8 0, .int .u8 0, .int .u8 0, .int .u8 0, .int .u8 0, .int .u8 0, .int .u8 0, .int .u8 0, .int .u8 0, .int .u8 0, .int .u8 0, .int .u8 0, .int .u8 0, .int .u8 0, .int .u8 0, .int .u8 0, .int .u8 0, .int .u8 0, .int .u8 0, .int .u8 0, .int .u8 0, .int .u8 0, .int .u8 0, .int .u8 0, .int .u8 0, .int .u8 0] 55 w4 fun k22 w12 =>
  call Try.prog 49 #[.slice p6 l6 c6] w12 fun v23 w13 =>
  asI .u64 v23 fun n24 =>
  call Try.prog 49 #[.slice p7 l7 c7] w13 fun v25 w14 =>
  asI .u64 v25 fun n26 =>
  stA Try.prog (⟨k22, 0, none⟩ : Addr) 36 #[.int .u32 n10, .int .u32 n13, .int .u64 n24, .int .u64 n26, .int .u8 0, .int .u8 0, .int .u8 0, .int .u8 0, .int .u8 0, .int .u8 0, .int .u8 0, .int .u8 0, .int .u8 0, .int .u8 0, .int .u8 0, .int .u8 0, .int .u8 0, .int .u8 0, .int .u8 0, .int .u8 0, .int .u8 0, .int .u8 0, .int .u8 0, .int .u8 0, .int .u8 0, .int .u8 0, .int .u8 0, .int .u8 0, .int .u8 0, .int .u8 0, .int .u8 0, .int .u8 0, .int .u8 0, .int .u8 0, .int .u8 0, .int .u8 0] w14 fun w15 =>
  J3 (⟨k22, 0, none⟩ : Addr) w15)) ∧
  (new #[.int .u32 0, .int .u32 0, .int .u64 0, .int .u64 0, .int .u8 0, .int .u8 0, .int .u8 0, .int .u8 0, .int .u8 0, .int .u8 0, .int .u8 0, .int .u8 0, .int .u8 0, .int .u8 0, .int .u8 0, .int .u8 0, .int .u8 0, .int .u8 0, .int .u8 0, .int .u8 0, .int .u8 0, .int .u8 0, .int .u8 0, .int .u8 0, .int .u8 0, .int .u8 0, .int .u8 0, .int .u8 0, .int .u8 0, .int .u8 0, .int .u8 0, .int .u8 0, .int .u8 0, .int .u8 0, .int .u8 0, .int .u8 0] 55 w3 fun k27 w16 =>
  call Try.prog 49 #[.slice p5 l5 c5] w16 fun v28 w17 =>
  asI .u64 v28 fun n29 =>
  arith .u32 n29 fun n30 =>
  call Try.prog 49 #[.slice p6 l6 c6] w17 fun v31 w18 =>
  asI .u64 v31 fun n32 =>
  call Try.prog 49 #[.slice p7 l7 c7] w18 fun v33 w19 =>
  asI .u64 v33 fun n34 =>
  stA Try.prog (⟨k27, 0, none⟩ : Addr) 36 #[.int .u32 n10, .int .u32 n30, .int .u64 n32, .int .u64 n34, .int .u8 0, .int .u8 0, .int .u8 0, .int .u8 0, .int .u8 0, .int .u8 0, .int .u8 0, .int .u8 0, .int .u8 0, .int .u8 0, .int .u8 0, .int .u8 0, .int .u8 0, .int .u8 0, .int .u8 0, .int .u8 0, .int .u8 0, .int .u8 0, .int .u8 0, .int .u8 0, .int .u8 0, .int .u8 0, .int .u8 0, .int .u8 0, .int .u8 0, .int .u8 0, .int .u8 0, .int .u8 0, .int .u8 0, .int .u8 0, .int .u8 0, .int .u8 0] w19 fun w20 =>
  J3 (⟨k27, 0, none⟩ : Addr) w20)) ∧
  (new #[.int .u32 0, .int .u32 0, .int .u64 0, .int .u64 0, .int .u8 0, .int .u8 0, .int .u8 0, .int .u8 0, .int .u8 0, .int .u8 0, .int .u8 0, .int .u8 0, .int .u8 0, .int .u8 0, .int .u8 0, .int .u8 0, .int .u8 0, .int .u8 0, .int .u8 0, .int .u8 0, .int .u8 0, .int .u8 0, .int .u8 0, .int .u8 0, .int .u8 0, .int .u8 0, .int .u8 0, .int .u8 0, .int .u8 0, .int .u8 0, .int .u8 0, .int .u8 0, .int .u8 0, .int .u8 0, .int .u8 0, .int .u8 0] 55 w1.drew fun k35 w21 =>
  call Try.prog 49 #[.slice p4 l4 c4] w21 fun v36 w22 =>
  asI .u64 v36 fun n37 =>
  arith .u32 n37 fun n38 =>
  call Try.prog 49 #[.slice p5 l5 c5] w22 fun v39 w23 =>
  asI .u64 v39 fun n40 =>
  arith .u32 n40 fun n41 =>
  call Try.prog 49 #[.slice p6 l6 c6] w23 fun v42 w24 =>
  asI .u64 v42 fun n43 =>
  call Try.prog 49 #[.slice p7 l7 c7] w24 fun v44 w25 =>
  asI .u64 v44 fun n45 =>
  stA Try.prog (⟨k35, 0, none⟩ : Addr) 36 #[.int .u32 n38, .int .u32 n41, .int .u64 n43, .int .u64 n45, .int .u8 0, .int .u8 0, .int .u8 0, .int .u8 0, .int .u8 0, .int .u8 0, .int .u8 0, .int .u8 0, .int .u8 0, .int .u8 0, .int .u8 0, .int .u8 0, .int .u8 0, .int .u8 0, .int .u8 0, .int .u8 0, .int .u8 0, .int .u8 0, .int .u8 0, .int .u8 0, .int .u8 0, .int .u8 0, .int .u8 0, .int .u8 0, .int .u8 0, .int .u8 0, .int .u8 0, .int .u8 0, .int .u8 0, .int .u8 0, .int .u8 0, .int .u8 0] w25 fun w26 =>
  J3 (⟨k35, 0, none⟩ : Addr) w26)) ∧
  ∀ (u46 : Nat → Value) (a47 : Addr) (w27 : World), J3 a47 w27 →
  ∃ I48 : Int → World → Nat → Prop, (∃ m49, I48 0 w27 m49) ∧
  ∀ (u50 : Nat → Value) (n51 : Int) (w28 : World) (m52 : Nat), I48 n51 w28 m52 →
  br (decide ((n51 : Int) < 16)) (
  arith .i64 (32 + n51) fun n53 =>
  idx x0 y0 n53 1 fun a54 =>
  ldI .u8 a54 w28 fun n55 =>
  idxA (a47.add 4) 16 n51 1 fun a56 =>
  st a56 (.int .u8 n55) w28 fun w29 =>
  arith .i64 (48 + n51) fun n57 =>
  idx x0 y0 n57 1 fun a58 =>
  ldI .u8 a58 w29 fun n59 =>
  idxA (a47.add 20) 16 n51 1 fun a60 =>
  st a60 (.int .u8 n59) w29 fun w30 =>
  arith .i64 (n51 + 1) fun n61 =>
  ∃ m62, m62 < m52 ∧ I48 n61 w30 m62) (
  ldA a47 36 w28 fun g63 =>
  call Try.prog 26 #[.agg g63] w28 fun v64 w31 =>
  asB v64 fun b65 =>
  br (!b65) (
  stA Try.prog (⟨k1, 0, none⟩ : Addr) 36 #[.int .u32 0, .int .u32 0, .int .u64 0, .int .u64 0, .int .u8 0, .int .u8 0, .int .u8 0, .int .u8 0, .int .u8 0, .int .u8 0, .int .u8 0, .int .u8 0, .int .u8 0, .int .u8 0, .int .u8 0, .int .u8 0, .int .u8 0, .int .u8 0, .int .u8 0, .int .u8 0, .int .u8 0, .int .u8 0, .int .u8 0, .int .u8 0, .int .u8 0, .int .u8 0, .int .u8 0, .int .u8 0, .int .u8 0, .int .u8 0, .int .u8 0, .int .u8 0, .int .u8 0, .int .u8 0, .int .u8 0, .int .u8 0] w31 fun w32 =>
  ldA (⟨k1, 0, none⟩ : Addr) 36 w32 fun g66 =>
  R (.tuple #[.agg g66, .int .i64 5]) w32) (
  ldA a47 36 w31 fun g67 =>
  call Try.prog 30 #[.slice none 0 0, .agg g67] w31 fun v68 w33 =>
  asS v68 fun p69 l69 c69 =>
  call Try.prog 11 #[.slice p69 l69 c69, .slice x0 y0 z0] w33 fun v70 w34 =>
  asB v70 fun b71 =>
  br (!b71) (
  stA Try.prog (⟨k1, 0, none⟩ : Addr) 36 #[.int .u32 0, .int .u32 0, .int .u64 0, .int .u64 0, .int .u8 0, .int .u8 0, .int .u8 0, .int .u8 0, .int .u8 0, .int .u8 0, .int .u8 0, .int .u8 0, .int .u8 0, .int .u8 0, .int .u8 0, .int .u8 0, .int .u8 0, .int .u8 0, .int .u8 0, .int .u8 0, .int .u8 0, .int .u8 0, .int .u8 0, .int .u8 0, .int .u8 0, .int .u8 0, .int .u8 0, .int .u8 0, .int .u8 0, .int .u8 0, .int .u8 0, .int .u8 0, .int .u8 0, .int .u8 0, .int .u8 0, .int .u8 0] w34 fun w35 =>
  ldA (⟨k1, 0, none⟩ : Addr) 36 w35 fun g72 =>
  R (.tuple #[.agg g72, .int .i64 5]) w35) (
  ldA a47 36 w34 fun g73 =>
  stA Try.prog (⟨k1, 0, none⟩ : Addr) 36 g73 w34 fun w36 =>
  ldA (⟨k1, 0, none⟩ : Addr) 36 w36 fun g74 =>
  R (.tuple #[.agg g74, .int .i64 0]) w36))))
@[irreducible] def tenonref07_Decode_ann : Ann := .seq .none (.seq .none (.meet [(4, .adr)] (.draw [[], [0], [0, 1], [0, 1, 2], [], [4], [0, 1, 2, 4, 5], [0, 1, 2, 4, 5, 6], [], [8], [0, 1, 2, 4, 5, 6, 8, 9], [], [11], [0, 1, 2, 4, 5, 6, 8, 9, 10, 11, 12], [0, 1, 2, 3, 4, 5, 6, 7, 8, 9, 10, 11, 12, 13], [], [0, 1, 2, 3, 4, 5, 6, 7, 8, 9, 10, 11, 12, 13, 14, 15]] (ol [0, 1, 4, 5, 8, 9, 11, 12] (.fork 2 (ol [3] (.fork 6 (ol [7] (.fork 10 (ol [] (.fork 13 (ol [14, 15, 16] .nil) 15 (ol [13, 14, 16] .nil))) 15 (ol [10, 13, 14, 16] .nil))) 15 (ol [6, 7, 10, 13, 14, 16] .nil))) 15 (ol [2, 3, 6, 7, 10, 13, 14, 16] .nil)))) (.seq (.seq .none (.one (.loop [(5, .int .i64)] .none))) .none)))
theorem tenonref07_Decode_call {x0 : Option Addr} {y0 z0 : Nat} {R : Value → World → Prop} {w : World} (h : tenonref07_Decode x0 y0 z0 R w) : call Try.prog 39 #[.slice x0 y0 z0] w R :=
  call_of_fnW plain mixed Try.func39 tenonref07_Decode_ann (Eq.mp (by kernel_rfl : tenonref07_Decode x0 y0 z0 R w = fnW Try.prog Try.f39 tenonref07_Decode_ann #[.slice x0 y0 z0] R w) h)

def slices_Equal (x0 : Option Addr) (y0 z0 : Nat) (x1 : Option Addr) (y1 z1 : Nat) (R : Value → World → Prop) (w : World) : Prop :=
  br ((y0 : Int) != (y1 : Int)) (
  R (.bool false) w) (
  ∃ I1 : Int → World → Nat → Prop, (∃ m2, I1 0 w m2) ∧
  ∀ (u3 : Nat → Value) (n4 : Int) (w1 : World) (m5 : Nat), I1 n4 w1 m5 →
  br (decide ((n4 : Int) < (y0 : Int))) (
  idx x0 y0 n4 36 fun a6 =>
  ldA a6 36 w1.drew fun g7 =>
  idx x1 y1 n4 36 fun a8 =>
  ldA a8 36 w1.drew fun g9 =>
  still Try.prog (Op.equal 55 (.agg g7) (.agg g9)) fun b10 =>
  br (!b10) (
  R (.bool false) w1.drew) (
  arith .i64 (n4 + 1) fun n11 =>
  ∃ m12, m12 < m5 ∧ I1 n11 w1.drew m12)) (
  R (.bool true) w1))
@[irreducible] def slices_Equal_ann : Ann := .seq .none (.seq .none (.seq (.seq .none (.one (.loop [(13, .int .i64)] (.seq .none (.seq .none (.seq (.one (.seq .none (.seq (.draw [[], [], [0, 1], [0, 1, 2], [], [], [4, 5], [4, 5, 6], [0, 1, 2, 3, 4, 5, 6, 7]] (ol [0, 1, 2, 3, 4, 5, 6, 7, 8] .nil)) .none))) .none)))))) .none))
theorem slices_Equal_call {x0 : Option Addr} {y0 z0 : Nat} {x1 : Option Addr} {y1 z1 : Nat} {R : Value → World → Prop} {w : World} (h : slices_Equal x0 y0 z0 x1 y1 z1 R w) : call Try.prog 40 #[.slice x0 y0 z0, .slice x1 y1 z1] w R :=
  call_of_fnW plain mixed Try.func40 slices_Equal_ann (Eq.mp (by kernel_rfl : slices_Equal x0 y0 z0 x1 y1 z1 R w = fnW Try.prog Try.f40 slices_Equal_ann #[.slice x0 y0 z0, .slice x1 y1 z1] R w) h)

def wire_fits (x0 : Int) (R : Value → World → Prop) (w : World) : Prop :=
  br ((x0 : Int) == 1) (
  R (.bool true) w) (
  br ((x0 : Int) == 2) (
  R (.bool true) w) (
  br ((x0 : Int) == 4) (
  R (.bool true) w) (
  R (.bool ((x0 : Int) == 8)) w)))
@[irreducible] def wire_fits_ann : Ann := .none
theorem wire_fits_call {x0 : Int} {R : Value → World → Prop} {w : World} (h : wire_fits x0 R w) : call Try.prog 41 #[.int .i64 x0] w R :=
  call_of_fnW plain mixed Try.func41 wire_fits_ann (Eq.mp (by kernel_rfl : wire_fits x0 R w = fnW Try.prog Try.f41 wire_fits_ann #[.int .i64 x0] R w) h)

def wire_gap (x0 : Int) (x1 : Int) (R : Value → World → Prop) (w : World) : Prop :=
  rem x0 x1 fun n1 =>
  arith .i64 (x1 - n1) fun n2 =>
  rem n2 x1 fun n3 =>
  R (.int .i64 n3) w
@[irreducible] def wire_gap_ann : Ann := .none
theorem wire_gap_call {x0 : Int} {x1 : Int} {R : Value → World → Prop} {w : World} (h : wire_gap x0 x1 R w) : call Try.prog 42 #[.int .i64 x0, .int .i64 x1] w R :=
  call_of_fnW plain mixed Try.func42 wire_gap_ann (Eq.mp (by kernel_rfl : wire_gap x0 x1 R w = fnW Try.prog Try.f42 wire_gap_ann #[.int .i64 x0, .int .i64 x1] R w) h)

def bytes_Clone (x0 : Option Addr) (y0 z0 : Nat) (R : Value → World → Prop) (w : World) : Prop :=
  br x0.isNone (
  R (.slice none 0 0) w) (
  new #[] 5 w fun k1 w1 =>
  runsS Try.prog (Builtin.append_ #[30, 30] 30 #[.slice (some (⟨k1, 0, none⟩ : Addr)) 0 0, .slice x0 y0 z0]) w1 fun p2 l2 c2 w2 =>
  R (.slice p2 l2 c2) w2)
@[irreducible] def bytes_Clone_ann : Ann := .none
theorem bytes_Clone_call {x0 : Option Addr} {y0 z0 : Nat} {R : Value → World → Prop} {w : World} (h : bytes_Clone x0 y0 z0 R w) : call Try.prog 43 #[.slice x0 y0 z0] w R :=
  call_of_fnW plain mixed Try.func43 bytes_Clone_ann (Eq.mp (by kernel_rfl : bytes_Clone x0 y0 z0 R w = fnW Try.prog Try.f43 bytes_Clone_ann #[.slice x0 y0 z0] R w) h)

def objref_Check (x0 : Array Value) (R : Value → World → Prop) (w : World) : Prop :=
  new x0 55 w fun k1 w1 =>
  ldI .u32 ((⟨k1, 0, none⟩ : Addr).add 0) w1 fun n2 =>
  br (decide ((n2 : Int) > 2)) (
  R (.int .i64 5) w1) (
  ldI .u32 ((⟨k1, 0, none⟩ : Addr).add 0) w1 fun n3 =>
  ldI .u32 ((⟨k1, 0, none⟩ : Addr).add 1) w1 fun n4 =>
  br (!(((n3 : Int) == 0) == (decide ((n4 : Int) > 0)))) (
  R (.int .i64 5) w1) (
  R (.int .i64 0) w1))
@[irreducible] def objref_Check_ann : Ann := .none
theorem objref_Check_call {x0 : Array Value} {R : Value → World → Prop} {w : World} (h : objref_Check x0 R w) : call Try.prog 44 #[.agg x0] w R :=
  call_of_fnW plain mixed Try.func44 objref_Check_ann (Eq.mp (by kernel_rfl : objref_Check x0 R w = fnW Try.prog Try.f44 objref_Check_ann #[.agg x0] R w) h)

def packet_bare (x0 : Array Value) (R : Value → World → Prop) (w : World) : Prop :=
  new x0 28 w fun k1 w1 =>
  new #[.int .i64 0, .int .i64 0, .int .i64 0, .int .u64 0, .int .u64 0, .int .u8 0, .int .u8 0, .int .u8 0, .int .u8 0, .int .u8 0, .int .u8 0, .int .u8 0, .int .u8 0, .int .u8 0, .int .u8 0, .int .u8 0, .int .u8 0, .int .u8 0, .int .u8 0, .int .u8 0, .int .u8 0, .int .i64 0, .int .i64 0, .int .i64 0, .slice none 0 0] 28 w1 fun k2 w2 =>
  st ((⟨k1, 0, none⟩ : Addr).add 0) (.int .i64 0) w2 fun w3 =>
  st ((⟨k1, 0, none⟩ : Addr).add 1) (.int .i64 0) w3 fun w4 =>
  st ((⟨k1, 0, none⟩ : Addr).add 2) (.int .i64 0) w4 fun w5 =>
  st ((⟨k1, 0, none⟩ : Addr).add 3) (.int .u64 0) w5 fun w6 =>
  ldA (⟨k1, 0, none⟩ : Addr) 25 w6 fun g3 =>
  stA Try.prog (⟨k2, 0, none⟩ : Addr) 25 g3 w6 fun w7 =>
  ldA (⟨k2, 0, none⟩ : Addr) 25 w7 fun g4 =>
  R (.agg g4) w7
@[irreducible] def packet_bare_ann : Ann := .none
theorem packet_bare_call {x0 : Array Value} {R : Value → World → Prop} {w : World} (h : packet_bare x0 R w) : call Try.prog 45 #[.agg x0] w R :=
  call_of_fnW plain mixed Try.func45 packet_bare_ann (Eq.mp (by kernel_rfl : packet_bare x0 R w = fnW Try.prog Try.f45 packet_bare_ann #[.agg x0] R w) h)

def objref_name (x0 : Option Addr) (R : Value → World → Prop) (w : World) : Prop :=
  new #[.int .u8 0, .int .u8 0, .int .u8 0, .int .u8 0, .int .u8 0, .int .u8 0, .int .u8 0, .int .u8 0, .int .u8 0, .int .u8 0, .int .u8 0, .int .u8 0, .int .u8 0, .int .u8 0, .int .u8 0, .int .u8 0] 24 w fun k1 w1 =>
  new #[.int .u8 0, .int .u8 0, .int .u8 0, .int .u8 0, .int .u8 0, .int .u8 0, .int .u8 0, .int .u8 0, .int .u8 0, .int .u8 0, .int .u8 0, .int .u8 0, .int .u8 0, .int .u8 0, .int .u8 0, .int .u8 0] 24 w1 fun k2 w2 =>
  ∃ I3 : Int → World → Nat → Prop, (∃ m4, I3 0 w2 m4) ∧
  ∀ (u5 : Nat → Value) (n6 : Int) (w3 : World) (m7 : Nat), I3 n6 w3 m7 →
  br (decide ((n6 : Int) < 16)) (
  call Try.prog 33 #[.pointer x0, .int .i64 1] w3 fun v8 w4 =>
  ∃ (n9 : Int) (n10 : Int),
  v8 = .tuple #[.int .u64 n9, .int .i64 n10] ∧
  arith .u8 n9 fun n11 =>
  idxA (⟨k2, 0, none⟩ : Addr) 16 n6 1 fun a12 =>
  st a12 (.int .u8 n11) w4 fun w5 =>
  arith .i64 (n6 + 1) fun n13 =>
  ∃ m14, m14 < m7 ∧ I3 n13 w5 m14) (
  ldA (⟨k2, 0, none⟩ : Addr) 16 w3 fun g15 =>
  stA Try.prog (⟨k1, 0, none⟩ : Addr) 16 g15 w3 fun w6 =>
  ldA (⟨k1, 0, none⟩ : Addr) 16 w6 fun g16 =>
  R (.agg g16) w6)
@[irreducible] def objref_name_ann : Ann := .seq .none (.seq .none (.seq (.seq .none (.one (.loop [(7, .int .i64)] .none))) .none))
theorem objref_name_call {x0 : Option Addr} {R : Value → World → Prop} {w : World} (h : objref_name x0 R w) : call Try.prog 46 #[.pointer x0] w R :=
  call_of_fnW plain mixed Try.func46 objref_name_ann (Eq.mp (by kernel_rfl : objref_name x0 R w = fnW Try.prog Try.f46 objref_name_ann #[.pointer x0] R w) h)

def wire_Reader_End (x0 : Option Addr) (R : Value → World → Prop) (w : World) : Prop :=
  call Try.prog 35 #[.pointer x0] w fun v1 w1 =>
  asI .i64 v1 fun n2 =>
  br (decide ((n2 : Int) > 0)) (
  R (.int .i64 5) w1) (
  R (.int .i64 0) w1)
@[irreducible] def wire_Reader_End_ann : Ann := .none
theorem wire_Reader_End_call {x0 : Option Addr} {R : Value → World → Prop} {w : World} (h : wire_Reader_End x0 R w) : call Try.prog 47 #[.pointer x0] w R :=
  call_of_fnW plain mixed Try.func47 wire_Reader_End_ann (Eq.mp (by kernel_rfl : wire_Reader_End x0 R w = fnW Try.prog Try.f47 wire_Reader_End_ann #[.pointer x0] R w) h)

def tenonref05_Read (x0 : Option Addr) (y0 z0 : Nat) (x1 : Int) (x2 : Int) (R : Value → World → Prop) (w : World) : Prop :=
  call Try.prog 50 #[.int .i64 x2] w fun v1 w1 =>
  asB v1 fun b2 =>
  br (!b2) (
  R (.tuple #[.int .u64 0, .int .i64 x1, .int .i64 1]) w1) (
  ∃ I3 : Int → World → Nat → Prop, (∃ m4, I3 x1 w1 m4) ∧
  ∀ (u5 : Nat → Value) (n6 : Int) (w2 : World) (m7 : Nat), I3 n6 w2 m7 →
  rem n6 x2 fun n8 =>
  br ((n8 : Int) != 0) (
  arith .i64 (n6 + 1) fun n9 =>
  ∃ m10, m10 < m7 ∧ I3 n9 w2 m10) (
  arith .i64 (n6 + x2) fun n11 =>
  br (decide ((n11 : Int) > (y0 : Int))) (
  R (.tuple #[.int .u64 0, .int .i64 x1, .int .i64 6]) w2) (
  ∃ I12 : Int → World → Nat → Prop, (∃ m13, I12 x1 w2 m13) ∧
  ∀ (u14 : Nat → Value) (n15 : Int) (w3 : World) (m16 : Nat), I12 n15 w3 m16 →
  br (decide ((n15 : Int) < n6)) (
  idx x0 y0 n15 1 fun a17 =>
  ldI .u8 a17 w3 fun n18 =>
  br ((n18 : Int) != 0) (
  R (.tuple #[.int .u64 0, .int .i64 x1, .int .i64 5]) w3) (
  arith .i64 (n15 + 1) fun n19 =>
  ∃ m20, m20 < m16 ∧ I12 n19 w3 m20)) (
  arith .i64 (x2 - 1) fun n21 =>
  ∃ I22 : Int → Int → World → Nat → Prop, (∃ m23, I22 0 n21 w3 m23) ∧
  ∀ (u24 : Nat → Value) (n25 : Int) (n26 : Int) (w4 : World) (m27 : Nat), I22 n25 n26 w4 m27 →
  br (decide ((n26 : Int) ≥ 0)) (
  arith .u64 (n25 * 256) fun n28 =>
  arith .i64 (n6 + n26) fun n29 =>
  idx x0 y0 n29 1 fun a30 =>
  ldI .u8 a30 w4 fun n31 =>
  arith .u64 n31 fun n32 =>
  arith .u64 (n28 + n32) fun n33 =>
  arith .i64 (n26 - 1) fun n34 =>
  ∃ m35, m35 < m27 ∧ I22 n33 n34 w4 m35) (
  arith .i64 (n6 + x2) fun n36 =>
  R (.tuple #[.int .u64 n25, .int .i64 n36, .int .i64 0]) w4)))))
@[irreducible] def tenonref05_Read_ann : Ann := .seq .none (.seq .none (.seq .none (.seq (.one (.loop [(9, .int .i64)] .none)) (.seq .none (.seq (.seq .none (.one (.loop [(10, .int .i64)] .none))) (.seq .none (.seq (.seq .none (.one (.loop [(11, .int .u64), (12, .int .i64)] .none))) .none)))))))
theorem tenonref05_Read_call {x0 : Option Addr} {y0 z0 : Nat} {x1 : Int} {x2 : Int} {R : Value → World → Prop} {w : World} (h : tenonref05_Read x0 y0 z0 x1 x2 R w) : call Try.prog 48 #[.slice x0 y0 z0, .int .i64 x1, .int .i64 x2] w R :=
  call_of_fnW plain mixed Try.func48 tenonref05_Read_ann (Eq.mp (by kernel_rfl : tenonref05_Read x0 y0 z0 x1 x2 R w = fnW Try.prog Try.f48 tenonref05_Read_ann #[.slice x0 y0 z0, .int .i64 x1, .int .i64 x2] R w) h)

def tenonref07_num (x0 : Option Addr) (y0 z0 : Nat) (R : Value → World → Prop) (w : World) : Prop :=
  arith .i64 ((y0 : Int) - 1) fun n1 =>
  ∃ I2 : Int → Int → World → Nat → Prop, (∃ m3, I2 0 n1 w m3) ∧
  ∀ (u4 : Nat → Value) (n5 : Int) (n6 : Int) (w1 : World) (m7 : Nat), I2 n5 n6 w1 m7 →
  br (decide ((n6 : Int) ≥ 0)) (
  arith .u64 (n5 * 256) fun n8 =>
  idx x0 y0 n6 1 fun a9 =>
  ldI .u8 a9 w1 fun n10 =>
  arith .u64 n10 fun n11 =>
  arith .u64 (n8 + n11) fun n12 =>
  arith .i64 (n6 - 1) fun n13 =>
  ∃ m14, m14 < m7 ∧ I2 n12 n13 w1 m14) (
  R (.int .u64 n5) w1)
@[irreducible] def tenonref07_num_ann : Ann := .seq .none (.seq .none (.seq (.seq .none (.one (.loop [(3, .int .u64), (4, .int .i64)] .none))) .none))
theorem tenonref07_num_call {x0 : Option Addr} {y0 z0 : Nat} {R : Value → World → Prop} {w : World} (h : tenonref07_num x0 y0 z0 R w) : call Try.prog 49 #[.slice x0 y0 z0] w R :=
  call_of_fnW plain mixed Try.func49 tenonref07_num_ann (Eq.mp (by kernel_rfl : tenonref07_num x0 y0 z0 R w = fnW Try.prog Try.f49 tenonref07_num_ann #[.slice x0 y0 z0] R w) h)

def tenonref05_Fits (x0 : Int) (R : Value → World → Prop) (w : World) : Prop :=
  br ((x0 : Int) == 1) (
  R (.bool true) w) (
  br ((x0 : Int) == 2) (
  R (.bool true) w) (
  br ((x0 : Int) == 4) (
  R (.bool true) w) (
  R (.bool ((x0 : Int) == 8)) w)))
@[irreducible] def tenonref05_Fits_ann : Ann := .none
theorem tenonref05_Fits_call {x0 : Int} {R : Value → World → Prop} {w : World} (h : tenonref05_Fits x0 R w) : call Try.prog 50 #[.int .i64 x0] w R :=
  call_of_fnW plain mixed Try.func50 tenonref05_Fits_ann (Eq.mp (by kernel_rfl : tenonref05_Fits x0 R w = fnW Try.prog Try.f50 tenonref05_Fits_ann #[.int .i64 x0] R w) h)

end Go.Proofs.Ytkkfhceejhabeaa
