/- The shallow forms of the functions of the translation, printed by a program of this repository, each proved sound. No conditions. -/
import Derived.Test.YtjjnbcdcppnllaaChecked
import Derived.Test.YtjjnbcdcppnllaaSp5
import Derived.Eval
set_option linter.unusedVariables false
namespace Go.Proofs.Ytjjnbcdcppnllaa
open Go.Sp
theorem plain : Plain Try.prog := by
  have h : (Try.prog.funcs.toList.all fun fn => !(fn.name == "runtime.NumGoroutine")) = true := by kernel_rfl
  intro f fn hf
  have := List.all_eq_true.1 h fn (by simpa using Array.mem_of_getElem? hf)
  simpa using this
theorem mixed : Try.prog.follows .mixedOrders = true := Checked.mixed Try.checked
abbrev T_api_Errno : Nat := 26
abbrev T_api_Guid : Nat := 32
abbrev T_api_Packet : Nat := 35
abbrev T_tenonlaw23_Act : Nat := 37
abbrev T_tenonref23_Net : Nat := 52
abbrev T_net_Net : Nat := 63
abbrev T_net_road : Nat := 65
abbrev T_net_mark : Nat := 72
abbrev T_api_Objref : Nat := 77
abbrev T_iter_Seq2_int_api_Packet_ : Nat := 85
abbrev T_wire_Writer : Nat := 106
abbrev T_wire_Reader : Nat := 112
abbrev T_int64 : Nat := 2
abbrev T_int : Nat := 3
abbrev T_bool : Nat := 4
abbrev T_uint8 : Nat := 5
abbrev T_string : Nat := 9
abbrev T_uintptr : Nat := 12
abbrev T_int32 : Nat := 21
abbrev T_sl_tenonlaw23_Act : Nat := 22
abbrev T_sl_api_Packet : Nat := 29
abbrev T_uint64 : Nat := 30
abbrev T_sl_api_Objref : Nat := 33
abbrev T_sl_sl_uint8 : Nat := 61
abbrev T_sl_uint8 : Nat := 66
abbrev T_uint32 : Nat := 75
abbrev T_ptr_uint8 : Nat := 128
abbrev fn_tenonlaw23_NetOnce : Nat := 3
abbrev fn_tenonlaw23_NetLost : Nat := 4
abbrev fn_tenonlaw23_NetPlays : Nat := 5
abbrev fn_tenonlaw23_NetTells : Nat := 6
abbrev fn_tenonlaw23_NetNil : Nat := 7
abbrev fn_tenonlaw23_great : Nat := 8
abbrev fn_tenonlaw23_awake : Nat := 9
abbrev fn_net_New : Nat := 10
abbrev fn_tenonref01_Pick : Nat := 11
abbrev fn_net_Net_Send : Nat := 12
abbrev fn_net_Net_Double : Nat := 13
abbrev fn_net_Net_Deliver : Nat := 14
abbrev fn_net_Net_Len : Nat := 15
abbrev fn_tenonref08_Same : Nat := 16
abbrev fn_net_Net_Lose : Nat := 17
abbrev fn_tenonref23_New : Nat := 18
abbrev fn_tenonlaw23_do : Nat := 19
abbrev fn_tenonlaw23_same : Nat := 20
abbrev fn_tenonlaw23_row : Nat := 21
abbrev fn_tenonlaw23_ping : Nat := 22
abbrev fn_packet_Encode : Nat := 23
abbrev fn_net_Net_place : Nat := 24
abbrev fn_packet_Decode : Nat := 25
abbrev fn_slices_Delete : Nat := 26
abbrev fn_tenonref23_Net_Send : Nat := 27
abbrev fn_tenonref23_Net_Take : Nat := 28
abbrev fn_tenonref23_Net_Fresh : Nat := 29
abbrev fn_net_Net_All : Nat := 30
abbrev fn_packet_Check : Nat := 31
abbrev fn_wire_NewWriter : Nat := 32
abbrev fn_wire_Writer_Num : Nat := 33
abbrev fn_packet_row : Nat := 34
abbrev fn_wire_Writer_Bytes : Nat := 35
abbrev fn_objref_Encode : Nat := 36
abbrev fn_wire_NewReader : Nat := 37
abbrev fn_packet_Decode_1 : Nat := 38
abbrev fn_wire_Reader_Num : Nat := 39
abbrev fn_objref_Decode : Nat := 40
abbrev fn_wire_Reader_Left : Nat := 41
abbrev fn_bytes_Equal : Nat := 42
abbrev fn_tenonref08_Right : Nat := 43
abbrev fn_net_Net_All_1 : Nat := 44
abbrev fn_slices_Clone : Nat := 45
abbrev fn_packet_home : Nat := 46
abbrev fn_packet_right : Nat := 47
abbrev fn_wire_fits : Nat := 48
abbrev fn_wire_gap : Nat := 49
abbrev fn_bytes_Clone : Nat := 50
abbrev fn_objref_Check : Nat := 51
abbrev fn_objref_name : Nat := 52
abbrev fn_wire_Reader_End : Nat := 53
abbrev fn_tenonref07_Right : Nat := 54
abbrev fn_packet_bare : Nat := 55
abbrev fn_packet_Same : Nat := 56
abbrev fn_slices_Equal : Nat := 57

def tenonlaw23_NetOnce (x0 : Option Addr) (y0 z0 : Nat) (R : Value → World → Prop) (w : World) : Prop :=
  call Try.prog 8 #[.slice x0 y0 z0] w fun v1 w1 =>
  asB v1 fun b2 =>
  br b2 (
  call Try.prog 9 #[] w1 fun v3 w2 =>
  asB v3 fun b4 =>
  R (.bool b4) w2) (
  call Try.prog 10 #[.int .i64 400] w1 fun v5 w3 =>
  ∃ (p6 : Option Addr) (n7 : Int),
  v5 = .tuple #[.pointer p6, .int .i64 n7] ∧
  br ((n7 : Int) != 0) (
  R (.bool false) w3) (
  ∃ J8 : Option Addr → Nat → Nat → Option Addr → Nat → Nat → World → Prop, (
  ∃ I9 : Option Addr → Nat → Nat → Option Addr → Nat → Nat → Int → World → Nat → Prop, (∃ m10, I9 none 0 0 none 0 0 0 w3 m10) ∧
  ∀ (u11 : Nat → Value) (p12 : Option Addr) (l12 c12 : Nat) (p13 : Option Addr) (l13 c13 : Nat) (n14 : Int) (w4 : World) (m15 : Nat), I9 p12 l12 c12 p13 l13 c13 n14 w4 m15 →
  br (decide ((n14 : Int) < (y0 : Int))) (
  br (decide ((n14 : Int) < 150)) (
  idx x0 y0 n14 27 fun a16 =>
  ldA a16 27 w4 fun g17 =>
  new #[.int .i64 0, .int .i64 0, .int .i64 0, .int .i64 0, .int .i64 0, .int .u64 0, .int .u64 0, .int .u8 0, .int .u8 0, .int .u8 0, .int .u8 0, .int .u8 0, .int .u8 0, .int .u8 0, .int .u8 0, .int .u8 0, .int .u8 0, .int .u8 0, .int .u8 0, .int .u8 0, .int .u8 0, .int .u8 0, .int .u8 0, .int .i64 0, .int .i64 0, .int .i64 0, .slice none 0 0] 37 w4 fun k18 w5 =>
  stA Try.prog (⟨k18, 0, none⟩ : Addr) 27 g17 w5 fun w6 =>
  ldI .i64 ((⟨k18, 0, none⟩ : Addr).add 0) w6 fun n19 =>
  call Try.prog 11 #[.int .i64 n19, .int .i64 4] w6 fun v20 w7 =>
  asI .i64 v20 fun n21 =>
  br ((n21 : Int) == 0) (
  ldA ((⟨k18, 0, none⟩ : Addr).add 2) 25 w7 fun g22 =>
  call Try.prog 12 #[.pointer p6, .agg g22] w7 fun v23 w8 =>
  ∃ (n24 : Int) (n25 : Int),
  v23 = .tuple #[.int .u64 n24, .int .i64 n25] ∧
  br ((n25 : Int) == 0) (
  ldA ((⟨k18, 0, none⟩ : Addr).add 2) 25 w8 fun g26 =>
  new #[.int .i64 0, .int .i64 0, .int .i64 0, .int .u64 0, .int .u64 0, .int .u8 0, .int .u8 0, .int .u8 0, .int .u8 0, .int .u8 0, .int .u8 0, .int .u8 0, .int .u8 0, .int .u8 0, .int .u8 0, .int .u8 0, .int .u8 0, .int .u8 0, .int .u8 0, .int .u8 0, .int .u8 0, .int .i64 0, .int .i64 0, .int .i64 0, .slice none 0 0] 35 w8 fun k27 w9 =>
  stA Try.prog (⟨k27, 0, none⟩ : Addr) 25 g26 w9 fun w10 =>
  st ((⟨k27, 0, none⟩ : Addr).add 3) (.int .u64 n24) w10 fun w11 =>
  ldA (⟨k27, 0, none⟩ : Addr) 25 w11 fun g28 =>
  (g28 : Array Value).size = 25 ∧
  new g28 35 w11 fun k29 w12 =>
  runsS Try.prog (Builtin.append_ #[29, 29] 29 #[.slice p12 l12 c12, .slice (some (⟨k29, 0, none⟩ : Addr)) 1 1]) w12 fun p30 l30 c30 w13 =>
  arith .i64 (n14 + 1) fun n31 =>
  ∃ m32, m32 < m15 ∧ I9 p30 l30 c30 p13 l13 c13 n31 w13 m32) (
  arith .i64 (n14 + 1) fun n33 =>
  ∃ m34, m34 < m15 ∧ I9 p12 l12 c12 p13 l13 c13 n33 w8 m34)) (
  br ((n21 : Int) == 1) (
  ldI .i64 ((⟨k18, 0, none⟩ : Addr).add 1) w7 fun n35 =>
  call Try.prog 13 #[.pointer p6, .int .i64 n35] w7 fun v36 w14 =>
  asI .i64 v36 fun n37 =>
  arith .i64 (n14 + 1) fun n38 =>
  ∃ m39, m39 < m15 ∧ I9 p12 l12 c12 p13 l13 c13 n38 w14 m39) (
  ldI .i64 ((⟨k18, 0, none⟩ : Addr).add 1) w7 fun n40 =>
  call Try.prog 14 #[.pointer p6, .int .i64 n40] w7 fun v41 w15 =>
  ∃ (g42 : Array Value) (b43 : Bool) (n44 : Int),
  v41 = .tuple #[.agg g42, .bool b43, .int .i64 n44] ∧
  new #[.int .i64 0, .int .i64 0, .int .i64 0, .int .u64 0, .int .u64 0, .int .u8 0, .int .u8 0, .int .u8 0, .int .u8 0, .int .u8 0, .int .u8 0, .int .u8 0, .int .u8 0, .int .u8 0, .int .u8 0, .int .u8 0, .int .u8 0, .int .u8 0, .int .u8 0, .int .u8 0, .int .u8 0, .int .i64 0, .int .i64 0, .int .i64 0, .slice none 0 0] 35 w15 fun k45 w16 =>
  stA Try.prog (⟨k45, 0, none⟩ : Addr) 25 g42 w16 fun w17 =>
  br ((n44 : Int) == 0) (
  br b43 (
  ldA (⟨k45, 0, none⟩ : Addr) 25 w17 fun g46 =>
  (g46 : Array Value).size = 25 ∧
  new g46 35 w17 fun k47 w18 =>
  runsS Try.prog (Builtin.append_ #[29, 29] 29 #[.slice p13 l13 c13, .slice (some (⟨k47, 0, none⟩ : Addr)) 1 1]) w18 fun p48 l48 c48 w19 =>
  arith .i64 (n14 + 1) fun n49 =>
  ∃ m50, m50 < m15 ∧ I9 p12 l12 c12 p48 l48 c48 n49 w19 m50) (
  arith .i64 (n14 + 1) fun n51 =>
  ∃ m52, m52 < m15 ∧ I9 p12 l12 c12 p13 l13 c13 n51 w17 m52)) (
  arith .i64 (n14 + 1) fun n53 =>
  ∃ m54, m54 < m15 ∧ I9 p12 l12 c12 p13 l13 c13 n53 w17 m54)))) (
  J8 p12 l12 c12 p13 l13 c13 w4)) (
  J8 p12 l12 c12 p13 l13 c13 w4)) ∧
  ∀ (u55 : Nat → Value) (p56 : Option Addr) (l56 c56 : Nat) (p57 : Option Addr) (l57 c57 : Nat) (w20 : World), J8 p56 l56 c56 p57 l57 c57 w20 →
  ∃ J58 : Option Addr → Nat → Nat → World → Prop, (
  ∃ I59 : Option Addr → Nat → Nat → World → Nat → Prop, (∃ m60, I59 p57 l57 c57 w20 m60) ∧
  ∀ (u61 : Nat → Value) (p62 : Option Addr) (l62 c62 : Nat) (w21 : World) (m63 : Nat), I59 p62 l62 c62 w21 m63 →
  call Try.prog 15 #[.pointer p6] w21 fun v64 w22 =>
  asI .i64 v64 fun n65 =>
  br (decide ((n65 : Int) > 0)) (
  br (decide ((l62 : Int) ≤ (l56 : Int))) (
  call Try.prog 14 #[.pointer p6, .int .i64 0] w22 fun v66 w23 =>
  ∃ (g67 : Array Value) (b68 : Bool) (n69 : Int),
  v66 = .tuple #[.agg g67, .bool b68, .int .i64 n69] ∧
  new #[.int .i64 0, .int .i64 0, .int .i64 0, .int .u64 0, .int .u64 0, .int .u8 0, .int .u8 0, .int .u8 0, .int .u8 0, .int .u8 0, .int .u8 0, .int .u8 0, .int .u8 0, .int .u8 0, .int .u8 0, .int .u8 0, .int .u8 0, .int .u8 0, .int .u8 0, .int .u8 0, .int .u8 0, .int .i64 0, .int .i64 0, .int .i64 0, .slice none 0 0] 35 w23 fun k70 w24 =>
  stA Try.prog (⟨k70, 0, none⟩ : Addr) 25 g67 w24 fun w25 =>
  br b68 (
  ldA (⟨k70, 0, none⟩ : Addr) 25 w25 fun g71 =>
  (g71 : Array Value).size = 25 ∧
  new g71 35 w25 fun k72 w26 =>
  runsS Try.prog (Builtin.append_ #[29, 29] 29 #[.slice p62 l62 c62, .slice (some (⟨k72, 0, none⟩ : Addr)) 1 1]) w26 fun p73 l73 c73 w27 =>
  ∃ m74, m74 < m63 ∧ I59 p73 l73 c73 w27 m74) (
  ∃ m75, m75 < m63 ∧ I59 p62 l62 c62 w25 m75)) (
  J58 p62 l62 c62 w22)) (
  J58 p62 l62 c62 w22)) ∧
  ∀ (u76 : Nat → Value) (p77 : Option Addr) (l77 c77 : Nat) (w28 : World), J58 p77 l77 c77 w28 →
  br ((l77 : Int) != (l56 : Int)) (
  R (.bool false) w28) (
  ∃ I78 : Int → World → Nat → Prop, (∃ m79, I78 0 w28 m79) ∧
  ∀ (u80 : Nat → Value) (n81 : Int) (w29 : World) (m82 : Nat), I78 n81 w29 m82 →
  br (decide ((n81 : Int) < (l56 : Int))) (
  ∃ I83 : Int → Int → World → Nat → Prop, (∃ m84, I83 0 0 w29 m84) ∧
  ∀ (u85 : Nat → Value) (n86 : Int) (n87 : Int) (w30 : World) (m88 : Nat), I83 n86 n87 w30 m88 →
  br (decide ((n87 : Int) < (l77 : Int))) (
  idx p77 l77 n87 25 fun a89 =>
  ldA a89 25 w30.drew fun g90 =>
  idx p56 l56 n81 25 fun a91 =>
  ldA a91 25 w30.drew fun g92 =>
  call Try.prog 16 #[.agg g90, .agg g92] w30.drew fun v93 w31 =>
  asB v93 fun b94 =>
  br b94 (
  arith .i64 (n86 + 1) fun n95 =>
  arith .i64 (n87 + 1) fun n96 =>
  ∃ m97, m97 < m88 ∧ I83 n95 n96 w31 m97) (
  arith .i64 (n87 + 1) fun n98 =>
  ∃ m99, m99 < m88 ∧ I83 n86 n98 w31 m99)) (
  br ((n86 : Int) != 1) (
  R (.bool false) w30) (
  arith .i64 (n81 + 1) fun n100 =>
  ∃ m101, m101 < m82 ∧ I78 n100 w30 m101))) (
  call Try.prog 9 #[] w29 fun v102 w32 =>
  asB v102 fun b103 =>
  R (.bool b103) w32))))
@[irreducible] def tenonlaw23_NetOnce_ann : Ann := .seq .none (.seq .none (.seq .none (.seq .none (.seq .none (.meet [(5, .slice), (6, .slice)] (.seq .none (.one (.loop [(5, .slice), (6, .slice), (7, .int .i64)] .none))) (.meet [(6, .slice)] (.one (.loop [(6, .slice)] .none)) (.seq .none (.seq (.seq .none (.one (.loop [(18, .int .i64)] (.seq .none (.seq (.one (.seq .none (.seq (.seq .none (.one (.loop [(19, .int .i64), (20, .int .i64)] (.seq .none (.seq (.one (.seq (.draw [[], [], [0, 1], [0, 1, 2], [], [], [4, 5], [4, 5, 6], [0, 1, 2, 3, 4, 5, 6, 7]] (ol [0, 1, 2, 3, 4, 5, 6, 7, 8] .nil)) .none)) .none))))) .none))) .none))))) .none))))))))
theorem tenonlaw23_NetOnce_call {x0 : Option Addr} {y0 z0 : Nat} {R : Value → World → Prop} {w : World} (h : tenonlaw23_NetOnce x0 y0 z0 R w) : call Try.prog 3 #[.slice x0 y0 z0] w R :=
  call_of_fnW plain mixed Try.func3 tenonlaw23_NetOnce_ann (Eq.mp (by kernel_rfl : tenonlaw23_NetOnce x0 y0 z0 R w = fnW Try.prog Try.f3 tenonlaw23_NetOnce_ann #[.slice x0 y0 z0] R w) h)

def tenonlaw23_NetLost (x0 : Option Addr) (y0 z0 : Nat) (R : Value → World → Prop) (w : World) : Prop :=
  call Try.prog 8 #[.slice x0 y0 z0] w fun v1 w1 =>
  asB v1 fun b2 =>
  br b2 (
  call Try.prog 9 #[] w1 fun v3 w2 =>
  asB v3 fun b4 =>
  R (.bool b4) w2) (
  call Try.prog 10 #[.int .i64 400] w1 fun v5 w3 =>
  ∃ (p6 : Option Addr) (n7 : Int),
  v5 = .tuple #[.pointer p6, .int .i64 n7] ∧
  br ((n7 : Int) != 0) (
  R (.bool false) w3) (
  ∃ I8 : Int → Int → Int → Int → World → Nat → Prop, (∃ m9, I8 0 0 0 0 w3 m9) ∧
  ∀ (u10 : Nat → Value) (n11 : Int) (n12 : Int) (n13 : Int) (n14 : Int) (w4 : World) (m15 : Nat), I8 n11 n12 n13 n14 w4 m15 →
  br (decide ((n14 : Int) < (y0 : Int))) (
  br (decide ((n14 : Int) < 150)) (
  idx x0 y0 n14 27 fun a16 =>
  ldA a16 27 w4 fun g17 =>
  new #[.int .i64 0, .int .i64 0, .int .i64 0, .int .i64 0, .int .i64 0, .int .u64 0, .int .u64 0, .int .u8 0, .int .u8 0, .int .u8 0, .int .u8 0, .int .u8 0, .int .u8 0, .int .u8 0, .int .u8 0, .int .u8 0, .int .u8 0, .int .u8 0, .int .u8 0, .int .u8 0, .int .u8 0, .int .u8 0, .int .u8 0, .int .i64 0, .int .i64 0, .int .i64 0, .slice none 0 0] 37 w4 fun k18 w5 =>
  stA Try.prog (⟨k18, 0, none⟩ : Addr) 27 g17 w5 fun w6 =>
  ldI .i64 ((⟨k18, 0, none⟩ : Addr).add 0) w6 fun n19 =>
  call Try.prog 11 #[.int .i64 n19, .int .i64 4] w6 fun v20 w7 =>
  asI .i64 v20 fun n21 =>
  br ((n21 : Int) == 0) (
  ldA ((⟨k18, 0, none⟩ : Addr).add 2) 25 w7 fun g22 =>
  call Try.prog 12 #[.pointer p6, .agg g22] w7 fun v23 w8 =>
  ∃ (n24 : Int) (n25 : Int),
  v23 = .tuple #[.int .u64 n24, .int .i64 n25] ∧
  br ((n25 : Int) == 0) (
  arith .i64 (n11 + 1) fun n26 =>
  call Try.prog 15 #[.pointer p6] w8 fun v27 w9 =>
  asI .i64 v27 fun n28 =>
  arith .i64 (n26 - n12) fun n29 =>
  br ((n28 : Int) != n29) (
  R (.bool false) w9) (
  br (decide ((n13 : Int) > n12)) (
  R (.bool false) w9) (
  arith .i64 (n14 + 1) fun n30 =>
  ∃ m31, m31 < m15 ∧ I8 n26 n12 n13 n30 w9 m31))) (
  call Try.prog 15 #[.pointer p6] w8 fun v32 w10 =>
  asI .i64 v32 fun n33 =>
  arith .i64 (n11 - n12) fun n34 =>
  br ((n33 : Int) != n34) (
  R (.bool false) w10) (
  br (decide ((n13 : Int) > n12)) (
  R (.bool false) w10) (
  arith .i64 (n14 + 1) fun n35 =>
  ∃ m36, m36 < m15 ∧ I8 n11 n12 n13 n35 w10 m36)))) (
  br ((n21 : Int) == 1) (
  ldI .i64 ((⟨k18, 0, none⟩ : Addr).add 1) w7 fun n37 =>
  call Try.prog 13 #[.pointer p6, .int .i64 n37] w7 fun v38 w11 =>
  asI .i64 v38 fun n39 =>
  br ((n39 : Int) == 0) (
  arith .i64 (n11 + 1) fun n40 =>
  call Try.prog 15 #[.pointer p6] w11 fun v41 w12 =>
  asI .i64 v41 fun n42 =>
  arith .i64 (n40 - n12) fun n43 =>
  br ((n42 : Int) != n43) (
  R (.bool false) w12) (
  br (decide ((n13 : Int) > n12)) (
  R (.bool false) w12) (
  arith .i64 (n14 + 1) fun n44 =>
  ∃ m45, m45 < m15 ∧ I8 n40 n12 n13 n44 w12 m45))) (
  call Try.prog 15 #[.pointer p6] w11 fun v46 w13 =>
  asI .i64 v46 fun n47 =>
  arith .i64 (n11 - n12) fun n48 =>
  br ((n47 : Int) != n48) (
  R (.bool false) w13) (
  br (decide ((n13 : Int) > n12)) (
  R (.bool false) w13) (
  arith .i64 (n14 + 1) fun n49 =>
  ∃ m50, m50 < m15 ∧ I8 n11 n12 n13 n49 w13 m50)))) (
  br ((n21 : Int) == 2) (
  ldI .i64 ((⟨k18, 0, none⟩ : Addr).add 1) w7 fun n51 =>
  call Try.prog 17 #[.pointer p6, .int .i64 n51] w7 fun v52 w14 =>
  ∃ (g53 : Array Value) (n54 : Int),
  v52 = .tuple #[.agg g53, .int .i64 n54] ∧
  new #[.int .i64 0, .int .i64 0, .int .i64 0, .int .u64 0, .int .u64 0, .int .u8 0, .int .u8 0, .int .u8 0, .int .u8 0, .int .u8 0, .int .u8 0, .int .u8 0, .int .u8 0, .int .u8 0, .int .u8 0, .int .u8 0, .int .u8 0, .int .u8 0, .int .u8 0, .int .u8 0, .int .u8 0, .int .i64 0, .int .i64 0, .int .i64 0, .slice none 0 0] 35 w14 fun k55 w15 =>
  stA Try.prog (⟨k55, 0, none⟩ : Addr) 25 g53 w15 fun w16 =>
  br ((n54 : Int) == 0) (
  arith .i64 (n12 + 1) fun n56 =>
  call Try.prog 15 #[.pointer p6] w16 fun v57 w17 =>
  asI .i64 v57 fun n58 =>
  arith .i64 (n11 - n56) fun n59 =>
  br ((n58 : Int) != n59) (
  R (.bool false) w17) (
  br (decide ((n13 : Int) > n56)) (
  R (.bool false) w17) (
  arith .i64 (n14 + 1) fun n60 =>
  ∃ m61, m61 < m15 ∧ I8 n11 n56 n13 n60 w17 m61))) (
  call Try.prog 15 #[.pointer p6] w16 fun v62 w18 =>
  asI .i64 v62 fun n63 =>
  arith .i64 (n11 - n12) fun n64 =>
  br ((n63 : Int) != n64) (
  R (.bool false) w18) (
  br (decide ((n13 : Int) > n12)) (
  R (.bool false) w18) (
  arith .i64 (n14 + 1) fun n65 =>
  ∃ m66, m66 < m15 ∧ I8 n11 n12 n13 n65 w18 m66)))) (
  ldI .i64 ((⟨k18, 0, none⟩ : Addr).add 1) w7 fun n67 =>
  call Try.prog 14 #[.pointer p6, .int .i64 n67] w7 fun v68 w19 =>
  ∃ (g69 : Array Value) (b70 : Bool) (n71 : Int),
  v68 = .tuple #[.agg g69, .bool b70, .int .i64 n71] ∧
  new #[.int .i64 0, .int .i64 0, .int .i64 0, .int .u64 0, .int .u64 0, .int .u8 0, .int .u8 0, .int .u8 0, .int .u8 0, .int .u8 0, .int .u8 0, .int .u8 0, .int .u8 0, .int .u8 0, .int .u8 0, .int .u8 0, .int .u8 0, .int .u8 0, .int .u8 0, .int .u8 0, .int .u8 0, .int .i64 0, .int .i64 0, .int .i64 0, .slice none 0 0] 35 w19 fun k72 w20 =>
  stA Try.prog (⟨k72, 0, none⟩ : Addr) 25 g69 w20 fun w21 =>
  br ((n71 : Int) == 0) (
  arith .i64 (n12 + 1) fun n73 =>
  br b70 (
  arith .i64 (n13 + 1) fun n74 =>
  call Try.prog 15 #[.pointer p6] w21 fun v75 w22 =>
  asI .i64 v75 fun n76 =>
  arith .i64 (n11 - n73) fun n77 =>
  br ((n76 : Int) != n77) (
  R (.bool false) w22) (
  br (decide ((n74 : Int) > n73)) (
  R (.bool false) w22) (
  arith .i64 (n14 + 1) fun n78 =>
  ∃ m79, m79 < m15 ∧ I8 n11 n73 n74 n78 w22 m79))) (
  call Try.prog 15 #[.pointer p6] w21 fun v80 w23 =>
  asI .i64 v80 fun n81 =>
  arith .i64 (n11 - n73) fun n82 =>
  br ((n81 : Int) != n82) (
  R (.bool false) w23) (
  br (decide ((n13 : Int) > n73)) (
  R (.bool false) w23) (
  arith .i64 (n14 + 1) fun n83 =>
  ∃ m84, m84 < m15 ∧ I8 n11 n73 n13 n83 w23 m84)))) (
  call Try.prog 15 #[.pointer p6] w21 fun v85 w24 =>
  asI .i64 v85 fun n86 =>
  arith .i64 (n11 - n12) fun n87 =>
  br ((n86 : Int) != n87) (
  R (.bool false) w24) (
  br (decide ((n13 : Int) > n12)) (
  R (.bool false) w24) (
  arith .i64 (n14 + 1) fun n88 =>
  ∃ m89, m89 < m15 ∧ I8 n11 n12 n13 n88 w24 m89))))))) (
  call Try.prog 9 #[] w4 fun v90 w25 =>
  asB v90 fun b91 =>
  R (.bool b91) w25)) (
  call Try.prog 9 #[] w4 fun v92 w26 =>
  asB v92 fun b93 =>
  R (.bool b93) w26)))
@[irreducible] def tenonlaw23_NetLost_ann : Ann := .seq .none (.seq .none (.seq .none (.seq .none (.seq .none (.seq (.seq .none (.one (.loop [(5, .int .i64), (6, .int .i64), (7, .int .i64), (8, .int .i64)] .none))) .none)))))
theorem tenonlaw23_NetLost_call {x0 : Option Addr} {y0 z0 : Nat} {R : Value → World → Prop} {w : World} (h : tenonlaw23_NetLost x0 y0 z0 R w) : call Try.prog 4 #[.slice x0 y0 z0] w R :=
  call_of_fnW plain mixed Try.func4 tenonlaw23_NetLost_ann (Eq.mp (by kernel_rfl : tenonlaw23_NetLost x0 y0 z0 R w = fnW Try.prog Try.f4 tenonlaw23_NetLost_ann #[.slice x0 y0 z0] R w) h)

def tenonlaw23_NetPlays (x0 : Int) (x1 : Option Addr) (y1 z1 : Nat) (R : Value → World → Prop) (w : World) : Prop :=
  call Try.prog 8 #[.slice x1 y1 z1] w fun v1 w1 =>
  asB v1 fun b2 =>
  br b2 (
  call Try.prog 9 #[] w1 fun v3 w2 =>
  asB v3 fun b4 =>
  R (.bool b4) w2) (
  call Try.prog 10 #[.int .i64 x0] w1 fun v5 w3 =>
  ∃ (p6 : Option Addr) (n7 : Int),
  v5 = .tuple #[.pointer p6, .int .i64 n7] ∧
  call Try.prog 18 #[.int .i64 x0] w3 fun v8 w4 =>
  asP v8 fun p9 =>
  br p9.isNone (
  br ((n7 : Int) == 1) (
  br p6.isNone (
  call Try.prog 9 #[] w4 fun v10 w5 =>
  asB v10 fun b11 =>
  R (.bool b11) w5) (
  R (.bool false) w4)) (
  R (.bool false) w4)) (
  ∃ J12 : World → Prop, (
  ∃ I13 : Int → World → Nat → Prop, (∃ m14, I13 0 w4 m14) ∧
  ∀ (u15 : Nat → Value) (n16 : Int) (w6 : World) (m17 : Nat), I13 n16 w6 m17 →
  br (decide ((n16 : Int) < (y1 : Int))) (
  br (decide ((n16 : Int) < 150)) (
  idx x1 y1 n16 27 fun a18 =>
  ldA a18 27 w6.drew fun g19 =>
  call Try.prog 19 #[.pointer p6, .pointer p9, .agg g19] w6.drew fun v20 w7 =>
  asB v20 fun b21 =>
  br (!b21) (
  R (.bool false) w7) (
  nn p9 fun a22 =>
  ldS (a22.add 1) w7 fun p23 l23 c23 =>
  call Try.prog 15 #[.pointer p6] w7 fun v24 w8 =>
  asI .i64 v24 fun n25 =>
  w8.cell? (a22.add 1) = some (.slice p23 l23 c23) ∧
  br ((n25 : Int) != (l23 : Int)) (
  R (.bool false) w8) (
  arith .i64 (n16 + 1) fun n26 =>
  ∃ m27, m27 < m17 ∧ I13 n26 w8 m27))) (
  J12  w6)) (
  J12  w6)) ∧
  ∀ (u28 : Nat → Value)  (w9 : World), J12  w9 →
  br ((n7 : Int) == 0) (
  nn p9 fun a29 =>
  ldS (a29.add 1) w9.drew fun p30 l30 c30 =>
  call Try.prog 21 #[.pointer p6, .int .i64 999] w9.drew fun v31 w10 =>
  asS v31 fun p32 l32 c32 =>
  w10.cell? (a29.add 1) = some (.slice p30 l30 c30) ∧
  call Try.prog 20 #[.slice p32 l32 c32, .slice p30 l30 c30] w10 fun v33 w11 =>
  asB v33 fun b34 =>
  br b34 (
  call Try.prog 9 #[] w11 fun v35 w12 =>
  asB v35 fun b36 =>
  R (.bool b36) w12) (
  R (.bool false) w11)) (
  R (.bool false) w9.drew)))
@[irreducible] def tenonlaw23_NetPlays_ann : Ann := .seq .none (.seq .none (.seq .none (.seq .none (.seq .none (.meet [] (.seq .none (.one (.loop [(8, .int .i64)] (.seq .none (.seq (.one (.seq (.draw [[], [], [], [], [2, 3], [2, 3, 4], [0, 1, 2, 3, 4, 5], [0, 1, 2, 3, 4, 5, 6], [0, 1, 2, 3, 4, 5, 6, 7], [0, 1, 2, 3, 4, 5, 6, 7, 8], [0, 1, 2, 3, 4, 5, 6, 7, 8, 9], [0, 1, 2, 3, 4, 5, 6, 7, 8], [0, 1, 2, 3, 4, 5, 6, 7, 8, 11], [0, 1, 2, 3, 4, 5, 6, 7, 8, 11, 12], [0, 1, 2, 3, 4, 5, 6, 7, 8, 11, 12, 13], [0, 1, 2, 3, 4, 5, 6, 7, 8, 11, 12, 13, 14], [0, 1, 2, 3, 4, 5, 6, 7, 8, 9, 10, 11, 12, 13, 14, 15], [0, 1, 2, 3, 4, 5, 6, 7, 8, 9, 10, 11, 12, 13, 14, 15, 16]] (ol [0, 1, 2, 3, 4, 5, 6, 7, 8, 9, 11, 12, 13, 14, 15, 10, 16, 17] .nil)) .none)) .none))))) (.seq (.draw [[], [0], [0, 1], [0, 1, 2], [0, 1, 2, 3], [0, 1, 2], [0, 1, 2, 5], [0, 1, 2, 5, 6], [0, 1, 2, 5, 6, 7], [0, 1, 2, 3, 4, 5, 6, 7, 8], [0, 1, 2, 3, 4, 5, 6, 7, 8, 9], [0, 1, 2, 3, 4, 5, 6, 7, 8, 9, 10], [0, 1, 2, 3, 4, 5, 6, 7, 8, 9, 10, 11], [0, 1, 2, 3, 4, 5, 6, 7, 8, 9, 10, 11, 12], [0, 1, 2, 3, 4, 5, 6, 7, 8, 9, 10, 11, 12, 13]] (ol [0, 1, 2, 3, 5, 6, 7, 8, 4, 9, 10, 11, 12, 13, 14] .nil)) .none))))))
theorem tenonlaw23_NetPlays_call {x0 : Int} {x1 : Option Addr} {y1 z1 : Nat} {R : Value → World → Prop} {w : World} (h : tenonlaw23_NetPlays x0 x1 y1 z1 R w) : call Try.prog 5 #[.int .i64 x0, .slice x1 y1 z1] w R :=
  call_of_fnW plain mixed Try.func5 tenonlaw23_NetPlays_ann (Eq.mp (by kernel_rfl : tenonlaw23_NetPlays x0 x1 y1 z1 R w = fnW Try.prog Try.f5 tenonlaw23_NetPlays_ann #[.int .i64 x0, .slice x1 y1 z1] R w) h)

def tenonlaw23_NetTells (x0 : Option Addr) (y0 z0 : Nat) (x1 : Int) (R : Value → World → Prop) (w : World) : Prop :=
  call Try.prog 8 #[.slice x0 y0 z0] w fun v1 w1 =>
  asB v1 fun b2 =>
  br b2 (
  call Try.prog 9 #[] w1 fun v3 w2 =>
  asB v3 fun b4 =>
  R (.bool b4) w2) (
  call Try.prog 10 #[.int .i64 30] w1 fun v5 w3 =>
  ∃ (p6 : Option Addr) (n7 : Int),
  v5 = .tuple #[.pointer p6, .int .i64 n7] ∧
  call Try.prog 18 #[.int .i64 30] w3 fun v8 w4 =>
  asP v8 fun p9 =>
  ∃ J10 : World → Prop, (
  ∃ I11 : Int → World → Nat → Prop, (∃ m12, I11 0 w4 m12) ∧
  ∀ (u13 : Nat → Value) (n14 : Int) (w5 : World) (m15 : Nat), I11 n14 w5 m15 →
  br (decide ((n14 : Int) < (y0 : Int))) (
  br (decide ((n14 : Int) < 60)) (
  idx x0 y0 n14 27 fun a16 =>
  ldA a16 27 w5 fun g17 =>
  call Try.prog 19 #[.pointer p6, .pointer p9, .agg g17] w5 fun v18 w6 =>
  asB v18 fun b19 =>
  arith .i64 (n14 + 1) fun n20 =>
  ∃ m21, m21 < m15 ∧ I11 n20 w6 m21) (
  J10  w5)) (
  J10  w5)) ∧
  ∀ (u22 : Nat → Value)  (w7 : World), J10  w7 →
  nn p9 fun a23 =>
  ldS (a23.add 1) w7 fun p24 l24 c24 =>
  arith .i64 ((l24 : Int) + 1) fun n25 =>
  call Try.prog 11 #[.int .i64 x1, .int .i64 n25] w7 fun v26 w8 =>
  asI .i64 v26 fun n27 =>
  nn p9 fun a28 =>
  ldS (a28.add 1) w8.drew fun p29 l29 c29 =>
  slc p29 c29 25 0 n27 fun p30 l30 c30 =>
  call Try.prog 21 #[.pointer p6, .int .i64 n27] w8.drew fun v31 w9 =>
  asS v31 fun p32 l32 c32 =>
  w9.cell? (a28.add 1) = some (.slice p29 l29 c29) ∧
  call Try.prog 20 #[.slice p32 l32 c32, .slice p30 l30 c30] w9 fun v33 w10 =>
  asB v33 fun b34 =>
  br b34 (
  nn p9 fun a35 =>
  ldS (a35.add 1) w10 fun p36 l36 c36 =>
  call Try.prog 21 #[.pointer p6, .int .i64 99] w10 fun v37 w11 =>
  asS v37 fun p38 l38 c38 =>
  w11.cell? (a35.add 1) = some (.slice p36 l36 c36) ∧
  call Try.prog 20 #[.slice p38 l38 c38, .slice p36 l36 c36] w11 fun v39 w12 =>
  asB v39 fun b40 =>
  br b40 (
  call Try.prog 9 #[] w12 fun v41 w13 =>
  asB v41 fun b42 =>
  R (.bool b42) w13) (
  R (.bool false) w12)) (
  R (.bool false) w10))
@[irreducible] def tenonlaw23_NetTells_ann : Ann := .seq .none (.seq .none (.seq .none (.seq .none (.meet [] (.seq .none (.one (.loop [(8, .int .i64)] .none))) (.seq .none (.seq (.draw [[], [], [0, 1], [], [3], [3, 4], [3, 4, 5], [], [3, 4, 5, 6, 7], [0, 1, 2, 3, 4, 5, 6, 7, 8], [0, 1, 2, 3, 4, 5, 6, 7, 8, 9], [0, 1, 2, 3, 4, 5, 6, 7, 8, 9, 10], [0, 1, 2, 3, 4, 5, 6, 7, 8, 9, 10, 11], [0, 1, 2, 3, 4, 5, 6, 7, 8, 9, 10], [0, 1, 2, 3, 4, 5, 6, 7, 8, 9, 10, 13], [0, 1, 2, 3, 4, 5, 6, 7, 8, 9, 10, 13, 14], [0, 1, 2, 3, 4, 5, 6, 7, 8, 9, 10, 13, 14, 15], [0, 1, 2, 3, 4, 5, 6, 7, 8, 9, 10, 11, 12, 13, 14, 15, 16], [0, 1, 2, 3, 4, 5, 6, 7, 8, 9, 10, 11, 12, 13, 14, 15, 16, 17], [0, 1, 2, 3, 4, 5, 6, 7, 8, 9, 10, 11, 12, 13, 14, 15, 16, 17, 18], [0, 1, 2, 3, 4, 5, 6, 7, 8, 9, 10, 11, 12, 13, 14, 15, 16, 17, 18, 19], [0, 1, 2, 3, 4, 5, 6, 7, 8, 9, 10, 11, 12, 13, 14, 15, 16, 17, 18, 19, 20], [0, 1, 2, 3, 4, 5, 6, 7, 8, 9, 10, 11, 12, 13, 14, 15, 16, 17, 18, 19, 20, 21]] (ol [0, 1, 3, 4, 5, 6, 7, 8, 2, 9, 10, 11, 13, 14, 15, 16, 12, 17, 18, 19, 20, 21, 22] .nil)) .none))))))
theorem tenonlaw23_NetTells_call {x0 : Option Addr} {y0 z0 : Nat} {x1 : Int} {R : Value → World → Prop} {w : World} (h : tenonlaw23_NetTells x0 y0 z0 x1 R w) : call Try.prog 6 #[.slice x0 y0 z0, .int .i64 x1] w R :=
  call_of_fnW plain mixed Try.func6 tenonlaw23_NetTells_ann (Eq.mp (by kernel_rfl : tenonlaw23_NetTells x0 y0 z0 x1 R w = fnW Try.prog Try.f6 tenonlaw23_NetTells_ann #[.slice x0 y0 z0, .int .i64 x1] R w) h)

def tenonlaw23_NetNil (x0 : Int) (x1 : Array Value) (R : Value → World → Prop) (w : World) : Prop :=
  new x1 35 w fun k1 w1 =>
  ldA (⟨k1, 0, none⟩ : Addr) 25 w1 fun g2 =>
  call Try.prog 12 #[.pointer none, .agg g2] w1 fun v3 w2 =>
  ∃ (n4 : Int) (n5 : Int),
  v3 = .tuple #[.int .u64 n4, .int .i64 n5] ∧
  call Try.prog 14 #[.pointer none, .int .i64 x0] w2 fun v6 w3 =>
  ∃ (g7 : Array Value) (b8 : Bool) (n9 : Int),
  v6 = .tuple #[.agg g7, .bool b8, .int .i64 n9] ∧
  new #[.int .i64 0, .int .i64 0, .int .i64 0, .int .u64 0, .int .u64 0, .int .u8 0, .int .u8 0, .int .u8 0, .int .u8 0, .int .u8 0, .int .u8 0, .int .u8 0, .int .u8 0, .int .u8 0, .int .u8 0, .int .u8 0, .int .u8 0, .int .u8 0, .int .u8 0, .int .u8 0, .int .u8 0, .int .i64 0, .int .i64 0, .int .i64 0, .slice none 0 0] 35 w3 fun k10 w4 =>
  stA Try.prog (⟨k10, 0, none⟩ : Addr) 25 g7 w4 fun w5 =>
  call Try.prog 17 #[.pointer none, .int .i64 x0] w5 fun v11 w6 =>
  ∃ (g12 : Array Value) (n13 : Int),
  v11 = .tuple #[.agg g12, .int .i64 n13] ∧
  new #[.int .i64 0, .int .i64 0, .int .i64 0, .int .u64 0, .int .u64 0, .int .u8 0, .int .u8 0, .int .u8 0, .int .u8 0, .int .u8 0, .int .u8 0, .int .u8 0, .int .u8 0, .int .u8 0, .int .u8 0, .int .u8 0, .int .u8 0, .int .u8 0, .int .u8 0, .int .u8 0, .int .u8 0, .int .i64 0, .int .i64 0, .int .i64 0, .slice none 0 0] 35 w6 fun k14 w7 =>
  stA Try.prog (⟨k14, 0, none⟩ : Addr) 25 g12 w7 fun w8 =>
  br ((n4 : Int) == 0) (
  br ((n5 : Int) == 3) (
  br (!b8) (
  br ((n9 : Int) == 12) (
  br ((n13 : Int) == 12) (
  call Try.prog 13 #[.pointer none, .int .i64 x0] w8 fun v15 w9 =>
  asI .i64 v15 fun n16 =>
  br ((n16 : Int) == 12) (
  call Try.prog 15 #[.pointer none] w9 fun v17 w10 =>
  asI .i64 v17 fun n18 =>
  br ((n18 : Int) == 0) (
  call Try.prog 21 #[.pointer none, .int .i64 9] w10 fun v19 w11 =>
  asS v19 fun p20 l20 c20 =>
  br ((l20 : Int) == 0) (
  call Try.prog 9 #[] w11 fun v21 w12 =>
  asB v21 fun b22 =>
  R (.bool b22) w12) (
  R (.bool false) w11)) (
  R (.bool false) w10)) (
  R (.bool false) w9)) (
  R (.bool false) w8)) (
  R (.bool false) w8)) (
  R (.bool false) w8)) (
  R (.bool false) w8)) (
  R (.bool false) w8)
@[irreducible] def tenonlaw23_NetNil_ann : Ann := .none
theorem tenonlaw23_NetNil_call {x0 : Int} {x1 : Array Value} {R : Value → World → Prop} {w : World} (h : tenonlaw23_NetNil x0 x1 R w) : call Try.prog 7 #[.int .i64 x0, .agg x1] w R :=
  call_of_fnW plain mixed Try.func7 tenonlaw23_NetNil_ann (Eq.mp (by kernel_rfl : tenonlaw23_NetNil x0 x1 R w = fnW Try.prog Try.f7 tenonlaw23_NetNil_ann #[.int .i64 x0, .agg x1] R w) h)

def tenonlaw23_great (x0 : Option Addr) (y0 z0 : Nat) (R : Value → World → Prop) (w : World) : Prop :=
  ∃ I1 : Int → World → Nat → Prop, (∃ m2, I1 0 w m2) ∧
  ∀ (u3 : Nat → Value) (n4 : Int) (w1 : World) (m5 : Nat), I1 n4 w1 m5 →
  br (decide ((n4 : Int) < (y0 : Int))) (
  br (decide ((n4 : Int) < 200)) (
  idx x0 y0 n4 27 fun a6 =>
  ldS ((a6.add 2).add 24) w1 fun p7 l7 c7 =>
  br (decide ((l7 : Int) > 5)) (
  R (.bool true) w1) (
  arith .i64 (n4 + 1) fun n8 =>
  ∃ m9, m9 < m5 ∧ I1 n8 w1 m9)) (
  R (.bool false) w1)) (
  R (.bool false) w1)
@[irreducible] def tenonlaw23_great_ann : Ann := .seq .none (.seq (.seq .none (.one (.loop [(3, .int .i64)] .none))) .none)
theorem tenonlaw23_great_call {x0 : Option Addr} {y0 z0 : Nat} {R : Value → World → Prop} {w : World} (h : tenonlaw23_great x0 y0 z0 R w) : call Try.prog 8 #[.slice x0 y0 z0] w R :=
  call_of_fnW plain mixed Try.func8 tenonlaw23_great_ann (Eq.mp (by kernel_rfl : tenonlaw23_great x0 y0 z0 R w = fnW Try.prog Try.f8 tenonlaw23_great_ann #[.slice x0 y0 z0] R w) h)

def tenonlaw23_awake  (R : Value → World → Prop) (w : World) : Prop :=
  call Try.prog 10 #[.int .i64 4] w fun v1 w1 =>
  ∃ (p2 : Option Addr) (n3 : Int),
  v1 = .tuple #[.pointer p2, .int .i64 n3] ∧
  call Try.prog 22 #[] w1 fun v4 w2 =>
  asA v4 fun g5 =>
  call Try.prog 12 #[.pointer p2, .agg g5] w2 fun v6 w3 =>
  ∃ (n7 : Int) (n8 : Int),
  v6 = .tuple #[.int .u64 n7, .int .i64 n8] ∧
  call Try.prog 13 #[.pointer p2, .int .i64 0] w3 fun v9 w4 =>
  asI .i64 v9 fun n10 =>
  call Try.prog 14 #[.pointer p2, .int .i64 0] w4 fun v11 w5 =>
  ∃ (g12 : Array Value) (b13 : Bool) (n14 : Int),
  v11 = .tuple #[.agg g12, .bool b13, .int .i64 n14] ∧
  new #[.int .i64 0, .int .i64 0, .int .i64 0, .int .u64 0, .int .u64 0, .int .u8 0, .int .u8 0, .int .u8 0, .int .u8 0, .int .u8 0, .int .u8 0, .int .u8 0, .int .u8 0, .int .u8 0, .int .u8 0, .int .u8 0, .int .u8 0, .int .u8 0, .int .u8 0, .int .u8 0, .int .u8 0, .int .i64 0, .int .i64 0, .int .i64 0, .slice none 0 0] 35 w5 fun k15 w6 =>
  stA Try.prog (⟨k15, 0, none⟩ : Addr) 25 g12 w6 fun w7 =>
  call Try.prog 14 #[.pointer p2, .int .i64 0] w7 fun v16 w8 =>
  ∃ (g17 : Array Value) (b18 : Bool) (n19 : Int),
  v16 = .tuple #[.agg g17, .bool b18, .int .i64 n19] ∧
  new #[.int .i64 0, .int .i64 0, .int .i64 0, .int .u64 0, .int .u64 0, .int .u8 0, .int .u8 0, .int .u8 0, .int .u8 0, .int .u8 0, .int .u8 0, .int .u8 0, .int .u8 0, .int .u8 0, .int .u8 0, .int .u8 0, .int .u8 0, .int .u8 0, .int .u8 0, .int .u8 0, .int .u8 0, .int .i64 0, .int .i64 0, .int .i64 0, .slice none 0 0] 35 w8 fun k20 w9 =>
  stA Try.prog (⟨k20, 0, none⟩ : Addr) 25 g17 w9 fun w10 =>
  br ((n3 : Int) == 0) (
  br ((n8 : Int) == 0) (
  br ((n7 : Int) == 1) (
  br ((n10 : Int) == 0) (
  br b13 (
  br ((n14 : Int) == 0) (
  br (!b18) (
  R (.bool ((n19 : Int) == 0)) w10) (
  R (.bool false) w10)) (
  R (.bool false) w10)) (
  R (.bool false) w10)) (
  R (.bool false) w10)) (
  R (.bool false) w10)) (
  R (.bool false) w10)) (
  R (.bool false) w10)
@[irreducible] def tenonlaw23_awake_ann : Ann := .none
theorem tenonlaw23_awake_call  {R : Value → World → Prop} {w : World} (h : tenonlaw23_awake  R w) : call Try.prog 9 #[] w R :=
  call_of_fnW plain mixed Try.func9 tenonlaw23_awake_ann (Eq.mp (by kernel_rfl : tenonlaw23_awake  R w = fnW Try.prog Try.f9 tenonlaw23_awake_ann #[] R w) h)

def net_New (x0 : Int) (R : Value → World → Prop) (w : World) : Prop :=
  br (decide ((x0 : Int) < 1)) (
  R (.tuple #[.pointer none, .int .i64 1]) w) (
  br (decide ((x0 : Int) > 65536)) (
  R (.tuple #[.pointer none, .int .i64 1]) w) (
  newM w fun k1 w1 =>
  newM w1 fun k2 w2 =>
  new #[.int .i64 x0, .slice none 0 0, .map (some k1), .map (some k2)] 63 w2 fun k3 w3 =>
  R (.tuple #[.pointer (some (⟨k3, 0, none⟩ : Addr)), .int .i64 0]) w3))
@[irreducible] def net_New_ann : Ann := .none
theorem net_New_call {x0 : Int} {R : Value → World → Prop} {w : World} (h : net_New x0 R w) : call Try.prog 10 #[.int .i64 x0] w R :=
  call_of_fnW plain mixed Try.func10 net_New_ann (Eq.mp (by kernel_rfl : net_New x0 R w = fnW Try.prog Try.f10 net_New_ann #[.int .i64 x0] R w) h)

def tenonref01_Pick (x0 : Int) (x1 : Int) (R : Value → World → Prop) (w : World) : Prop :=
  br (decide ((x1 : Int) < 1)) (
  R (.int .i64 0) w) (
  rem x0 x1 fun n1 =>
  br (decide ((n1 : Int) < 0)) (
  arith .i64 (n1 + x1) fun n2 =>
  R (.int .i64 n2) w) (
  R (.int .i64 n1) w))
@[irreducible] def tenonref01_Pick_ann : Ann := .none
theorem tenonref01_Pick_call {x0 : Int} {x1 : Int} {R : Value → World → Prop} {w : World} (h : tenonref01_Pick x0 x1 R w) : call Try.prog 11 #[.int .i64 x0, .int .i64 x1] w R :=
  call_of_fnW plain mixed Try.func11 tenonref01_Pick_ann (Eq.mp (by kernel_rfl : tenonref01_Pick x0 x1 R w = fnW Try.prog Try.f11 tenonref01_Pick_ann #[.int .i64 x0, .int .i64 x1] R w) h)

def net_Net_Send (x0 : Option Addr) (x1 : Array Value) (R : Value → World → Prop) (w : World) : Prop :=
  new x1 35 w fun k1 w1 =>
  br x0.isNone (
  R (.tuple #[.int .u64 0, .int .i64 3]) w1) (
  ldI .i64 ((⟨k1, 0, none⟩ : Addr).add 1) w1 fun n2 =>
  ldI .i64 ((⟨k1, 0, none⟩ : Addr).add 2) w1 fun n3 =>
  new #[.int .i64 0, .int .i64 0] 65 w1 fun k4 w2 =>
  stA Try.prog (⟨k4, 0, none⟩ : Addr) 2 #[.int .i64 n2, .int .i64 n3] w2 fun w3 =>
  nn x0 fun a5 =>
  ldM (a5.add 2) w3.drew fun r6 =>
  ldA (⟨k4, 0, none⟩ : Addr) 2 w3.drew fun g7 =>
  lookW Try.prog 59 r6 (.agg g7) false w3.drew fun v8 =>
  asI .u64 v8 fun n9 =>
  arith .u64 (n9 + 1) fun n10 =>
  st ((⟨k1, 0, none⟩ : Addr).add 3) (.int .u64 n10) w3.drew fun w4 =>
  ldA (⟨k1, 0, none⟩ : Addr) 25 w4 fun g11 =>
  call Try.prog 23 #[.agg g11] w4 fun v12 w5 =>
  ∃ (p13 : Option Addr) (l13 c13 : Nat) (n14 : Int),
  v12 = .tuple #[.slice p13 l13 c13, .int .i64 n14] ∧
  br ((n14 : Int) != 0) (
  R (.tuple #[.int .u64 0, .int .i64 n14]) w5) (
  nn x0 fun a15 =>
  ldS (a15.add 1) w5.drew fun p16 l16 c16 =>
  nn x0 fun a17 =>
  ldI .i64 (a17.add 0) w5.drew fun n18 =>
  br (decide ((l16 : Int) ≥ n18)) (
  R (.tuple #[.int .u64 0, .int .i64 3]) w5.drew) (
  nn x0 fun a19 =>
  ldS (a19.add 1) w5.drew fun p20 l20 c20 =>
  new #[.slice p13 l13 c13] 66 w5.drew fun k21 w6 =>
  runsS Try.prog (Builtin.append_ #[61, 61] 61 #[.slice p20 l20 c20, .slice (some (⟨k21, 0, none⟩ : Addr)) 1 1]) w6 fun p22 l22 c22 w7 =>
  nn x0 fun a23 =>
  st (a23.add 1) (.slice p22 l22 c22) w7 fun w8 =>
  nn x0 fun a24 =>
  ldM (a24.add 2) w8.drew fun r25 =>
  ldA (⟨k4, 0, none⟩ : Addr) 2 w8.drew fun g26 =>
  ldI .u64 ((⟨k1, 0, none⟩ : Addr).add 3) w8.drew fun n27 =>
  setM Try.prog 59 r25 (.agg g26) (.int .u64 n27) w8.drew fun w9 =>
  ldI .u64 ((⟨k1, 0, none⟩ : Addr).add 3) w9 fun n28 =>
  R (.tuple #[.int .u64 n28, .int .i64 0]) w9)))
@[irreducible] def net_Net_Send_ann : Ann := .seq .none (.seq .none (.seq .none (.seq (.draw [[], [0], [0, 1], [0, 1, 2], [], [0, 1, 2, 3, 4], [0, 1, 2, 3, 4, 5], [0, 1, 2, 3, 4, 5, 6], [0, 1, 2, 3, 4, 5, 6, 7]] (ol [0, 1, 2, 3, 4, 5, 6, 7, 8] .nil)) (.seq .none (.seq .none (.seq (.seq (.draw [[], [0], [0, 1], [0, 1, 2], [0, 1, 2, 3], [], [5], [5, 6], [5, 6, 7], [0, 1, 2, 3, 4, 5, 6, 7, 8]] (ol [0, 1, 2, 3, 4, 5, 6, 7, 8, 9] .nil)) .none) (.seq .none (.seq (.draw [[], [0], [0, 1], [0, 1, 2], [], [], [5], [0, 1, 2, 3, 4, 5, 6]] (ol [0, 1, 2, 3, 4, 5, 6, 7] .nil)) .none))))))))
theorem net_Net_Send_call {x0 : Option Addr} {x1 : Array Value} {R : Value → World → Prop} {w : World} (h : net_Net_Send x0 x1 R w) : call Try.prog 12 #[.pointer x0, .agg x1] w R :=
  call_of_fnW plain mixed Try.func12 net_Net_Send_ann (Eq.mp (by kernel_rfl : net_Net_Send x0 x1 R w = fnW Try.prog Try.f12 net_Net_Send_ann #[.pointer x0, .agg x1] R w) h)

def net_Net_Double (x0 : Option Addr) (x1 : Int) (R : Value → World → Prop) (w : World) : Prop :=
  call Try.prog 24 #[.pointer x0, .int .i64 x1] w fun v1 w1 =>
  ∃ (n2 : Int) (n3 : Int),
  v1 = .tuple #[.int .i64 n2, .int .i64 n3] ∧
  br ((n3 : Int) != 0) (
  R (.int .i64 n3) w1) (
  nn x0 fun a4 =>
  ldS (a4.add 1) w1.drew fun p5 l5 c5 =>
  nn x0 fun a6 =>
  ldI .i64 (a6.add 0) w1.drew fun n7 =>
  br (decide ((l5 : Int) ≥ n7)) (
  R (.int .i64 3) w1.drew) (
  nn x0 fun a8 =>
  ldS (a8.add 1) w1.drew.drew fun p9 l9 c9 =>
  nn x0 fun a10 =>
  ldS (a10.add 1) w1.drew.drew fun p11 l11 c11 =>
  idx p11 l11 n2 1 fun a12 =>
  ldS a12 w1.drew.drew fun p13 l13 c13 =>
  new #[.slice p13 l13 c13] 66 w1.drew.drew fun k14 w2 =>
  runsS Try.prog (Builtin.append_ #[61, 61] 61 #[.slice p9 l9 c9, .slice (some (⟨k14, 0, none⟩ : Addr)) 1 1]) w2 fun p15 l15 c15 w3 =>
  nn x0 fun a16 =>
  st (a16.add 1) (.slice p15 l15 c15) w3 fun w4 =>
  R (.int .i64 0) w4))
@[irreducible] def net_Net_Double_ann : Ann := .seq .none (.seq .none (.seq (.one (.seq .none (.seq .none (.seq (.draw [[], [0], [0, 1], [0, 1, 2], [0, 1, 2, 3], [], [5], [5, 6], [5, 6, 7], [0, 1, 2, 3, 4, 5, 6, 7, 8], [0, 1, 2, 3, 4, 5, 6, 7, 8, 9]] (ol [0, 1, 2, 3, 4, 5, 6, 7, 8, 9, 10] .nil)) .none)))) (.seq (.draw [[], [], [1], [1, 2], [1, 2, 3], [], [5], [5, 6], [5, 6, 7], [], [5, 6, 7, 8, 9], [5, 6, 7, 8, 9, 10], [5, 6, 7, 8, 9, 10, 11], [1, 2, 3, 4, 5, 6, 7, 8, 9, 10, 11, 12], [0, 1, 2, 3, 4, 5, 6, 7, 8, 9, 10, 11, 12, 13], [0, 1, 2, 3, 4, 5, 6, 7, 8, 9, 10, 11, 12, 13, 14], [0, 1, 2, 3, 4, 5, 6, 7, 8, 9, 10, 11, 12, 13, 14, 15]] (ol [0, 1, 2, 3, 4, 5, 6, 7, 8, 9, 10, 11, 12, 13, 14, 15, 16] .nil)) .none)))
theorem net_Net_Double_call {x0 : Option Addr} {x1 : Int} {R : Value → World → Prop} {w : World} (h : net_Net_Double x0 x1 R w) : call Try.prog 13 #[.pointer x0, .int .i64 x1] w R :=
  call_of_fnW plain mixed Try.func13 net_Net_Double_ann (Eq.mp (by kernel_rfl : net_Net_Double x0 x1 R w = fnW Try.prog Try.f13 net_Net_Double_ann #[.pointer x0, .int .i64 x1] R w) h)

def net_Net_Deliver (x0 : Option Addr) (x1 : Int) (R : Value → World → Prop) (w : World) : Prop :=
  new #[.int .i64 0, .int .i64 0, .int .i64 0, .int .u64 0, .int .u64 0, .int .u8 0, .int .u8 0, .int .u8 0, .int .u8 0, .int .u8 0, .int .u8 0, .int .u8 0, .int .u8 0, .int .u8 0, .int .u8 0, .int .u8 0, .int .u8 0, .int .u8 0, .int .u8 0, .int .u8 0, .int .u8 0, .int .i64 0, .int .i64 0, .int .i64 0, .slice none 0 0] 35 w fun k1 w1 =>
  call Try.prog 17 #[.pointer x0, .int .i64 x1] w1 fun v2 w2 =>
  ∃ (g3 : Array Value) (n4 : Int),
  v2 = .tuple #[.agg g3, .int .i64 n4] ∧
  stA Try.prog (⟨k1, 0, none⟩ : Addr) 25 g3 w2 fun w3 =>
  br ((n4 : Int) != 0) (
  ldA (⟨k1, 0, none⟩ : Addr) 25 w3 fun g5 =>
  stA Try.prog (⟨k1, 0, none⟩ : Addr) 25 g5 w3 fun w4 =>
  ldA (⟨k1, 0, none⟩ : Addr) 25 w4 fun g6 =>
  R (.tuple #[.agg g6, .bool false, .int .i64 n4]) w4) (
  ldI .i64 ((⟨k1, 0, none⟩ : Addr).add 1) w3 fun n7 =>
  ldI .i64 ((⟨k1, 0, none⟩ : Addr).add 2) w3 fun n8 =>
  ldI .u64 ((⟨k1, 0, none⟩ : Addr).add 3) w3 fun n9 =>
  (#[.int .i64 n7, .int .i64 n8] : Array Value).size = 2 ∧
  new #[.int .i64 0, .int .i64 0, .int .u64 0] 72 w3 fun k10 w5 =>
  stA Try.prog (⟨k10, 0, none⟩ : Addr) 3 #[.int .i64 n7, .int .i64 n8, .int .u64 n9] w5 fun w6 =>
  nn x0 fun a11 =>
  ldM (a11.add 3) w6.drew fun r12 =>
  ldA (⟨k10, 0, none⟩ : Addr) 3 w6.drew fun g13 =>
  (lookW Try.prog 60 r12 (.agg g13) true w6.drew fun v14 =>
  ∃ (g15 : Array Value) (b16 : Bool),
  v14 = .tuple #[.agg g15, .bool b16] ∧
  new #[] 73 w6.drew fun k17 w7 =>
  stA Try.prog (⟨k17, 0, none⟩ : Addr) 0 g15 w7 fun w8 =>
  nn x0 fun a18 =>
  ldM (a18.add 3) w8.drew fun r19 =>
  ldA (⟨k10, 0, none⟩ : Addr) 3 w8.drew fun g20 =>
  setM Try.prog 60 r19 (.agg g20) (.agg #[]) w8.drew fun w9 =>
  ldA (⟨k1, 0, none⟩ : Addr) 25 w9 fun g21 =>
  stA Try.prog (⟨k1, 0, none⟩ : Addr) 25 g21 w9 fun w10 =>
  ldA (⟨k1, 0, none⟩ : Addr) 25 w10 fun g22 =>
  R (.tuple #[.agg g22, .bool (!b16), .int .i64 0]) w10) ∧
  (new #[] 73 w6.drew fun k23 w11 =>
  lookW Try.prog 60 r12 (.agg g13) true w11 fun v24 =>
  ∃ (g25 : Array Value) (b26 : Bool),
  v24 = .tuple #[.agg g25, .bool b26] ∧
  stA Try.prog (⟨k23, 0, none⟩ : Addr) 0 g25 w11 fun w12 =>
  nn x0 fun a27 =>
  ldM (a27.add 3) w12.drew fun r28 =>
  ldA (⟨k10, 0, none⟩ : Addr) 3 w12.drew fun g29 =>
  setM Try.prog 60 r28 (.agg g29) (.agg #[]) w12.drew fun w13 =>
  ldA (⟨k1, 0, none⟩ : Addr) 25 w13 fun g30 =>
  stA Try.prog (⟨k1, 0, none⟩ : Addr) 25 g30 w13 fun w14 =>
  ldA (⟨k1, 0, none⟩ : Addr) 25 w14 fun g31 =>
  R (.tuple #[.agg g31, .bool (!b26), .int .i64 0]) w14))
@[irreducible] def net_Net_Deliver_ann : Ann := .seq .none (.seq .none (.seq .none (.seq .none (.seq (.draw [[], [0], [0, 1], [0, 1, 2], [], [0, 1, 2, 3, 4], [0, 1, 2, 3, 4, 5], [0, 1, 2, 3, 4, 5, 6], [0, 1, 2, 3, 4, 5, 6], [], [0, 1, 2, 3, 4, 5, 6, 7, 9], [0, 1, 2, 3, 4, 5, 6, 7, 8, 9, 10]] (ol [0, 1, 2, 3, 4] (.fork 5 (ol [6, 7, 8, 9, 10, 11] .nil) 9 (ol [5, 6, 7, 8, 10, 11] .nil)))) (.seq (.draw [[], [0], [0, 1], [0, 1, 2], [], [], [0, 1, 2, 3, 4, 5]] (ol [0, 1, 2, 3, 4, 5, 6] .nil)) .none)))))
theorem net_Net_Deliver_call {x0 : Option Addr} {x1 : Int} {R : Value → World → Prop} {w : World} (h : net_Net_Deliver x0 x1 R w) : call Try.prog 14 #[.pointer x0, .int .i64 x1] w R :=
  call_of_fnW plain mixed Try.func14 net_Net_Deliver_ann (Eq.mp (by kernel_rfl : net_Net_Deliver x0 x1 R w = fnW Try.prog Try.f14 net_Net_Deliver_ann #[.pointer x0, .int .i64 x1] R w) h)

def net_Net_Len (x0 : Option Addr) (R : Value → World → Prop) (w : World) : Prop :=
  br x0.isNone (
  R (.int .i64 0) w) (
  nn x0 fun a1 =>
  ldS (a1.add 1) w fun p2 l2 c2 =>
  R (.int .i64 ((l2 : Int))) w)
@[irreducible] def net_Net_Len_ann : Ann := .none
theorem net_Net_Len_call {x0 : Option Addr} {R : Value → World → Prop} {w : World} (h : net_Net_Len x0 R w) : call Try.prog 15 #[.pointer x0] w R :=
  call_of_fnW plain mixed Try.func15 net_Net_Len_ann (Eq.mp (by kernel_rfl : net_Net_Len x0 R w = fnW Try.prog Try.f15 net_Net_Len_ann #[.pointer x0] R w) h)

def tenonref08_Same (x0 : Array Value) (x1 : Array Value) (R : Value → World → Prop) (w : World) : Prop :=
  new x0 35 w fun k1 w1 =>
  new x1 35 w1 fun k2 w2 =>
  ldS ((⟨k1, 0, none⟩ : Addr).add 24) w2 fun p3 l3 c3 =>
  ldS ((⟨k2, 0, none⟩ : Addr).add 24) w2 fun p4 l4 c4 =>
  br ((l3 : Int) != (l4 : Int)) (
  R (.bool false) w2) (
  ∃ I5 : Int → World → Nat → Prop, (∃ m6, I5 0 w2 m6) ∧
  ∀ (u7 : Nat → Value) (n8 : Int) (w3 : World) (m9 : Nat), I5 n8 w3 m9 →
  ldS ((⟨k1, 0, none⟩ : Addr).add 24) w3 fun p10 l10 c10 =>
  br (decide ((n8 : Int) < (l10 : Int))) (
  ldS ((⟨k1, 0, none⟩ : Addr).add 24) w3.drew fun p11 l11 c11 =>
  idx p11 l11 n8 36 fun a12 =>
  ldA a12 36 w3.drew fun g13 =>
  ldS ((⟨k2, 0, none⟩ : Addr).add 24) w3.drew fun p14 l14 c14 =>
  idx p14 l14 n8 36 fun a15 =>
  ldA a15 36 w3.drew fun g16 =>
  still Try.prog (Op.equal 77 (.agg g13) (.agg g16)) fun b17 =>
  br (!b17) (
  R (.bool false) w3.drew) (
  arith .i64 (n8 + 1) fun n18 =>
  ∃ m19, m19 < m9 ∧ I5 n18 w3.drew m19)) (
  ldI .i64 ((⟨k1, 0, none⟩ : Addr).add 0) w3 fun n20 =>
  ldI .i64 ((⟨k2, 0, none⟩ : Addr).add 0) w3 fun n21 =>
  br ((n20 : Int) == n21) (
  ldI .i64 ((⟨k1, 0, none⟩ : Addr).add 1) w3 fun n22 =>
  ldI .i64 ((⟨k2, 0, none⟩ : Addr).add 1) w3 fun n23 =>
  br ((n22 : Int) == n23) (
  ldI .i64 ((⟨k1, 0, none⟩ : Addr).add 2) w3 fun n24 =>
  ldI .i64 ((⟨k2, 0, none⟩ : Addr).add 2) w3 fun n25 =>
  br ((n24 : Int) == n25) (
  ldI .u64 ((⟨k1, 0, none⟩ : Addr).add 3) w3 fun n26 =>
  ldI .u64 ((⟨k2, 0, none⟩ : Addr).add 3) w3 fun n27 =>
  br ((n26 : Int) == n27) (
  ldI .u64 ((⟨k1, 0, none⟩ : Addr).add 4) w3 fun n28 =>
  ldI .u64 ((⟨k2, 0, none⟩ : Addr).add 4) w3 fun n29 =>
  br ((n28 : Int) == n29) (
  ldA ((⟨k1, 0, none⟩ : Addr).add 5) 16 w3 fun g30 =>
  ldA ((⟨k2, 0, none⟩ : Addr).add 5) 16 w3 fun g31 =>
  still Try.prog (Op.equal 32 (.agg g30) (.agg g31)) fun b32 =>
  br b32 (
  ldI .i64 ((⟨k1, 0, none⟩ : Addr).add 21) w3 fun n33 =>
  ldI .i64 ((⟨k2, 0, none⟩ : Addr).add 21) w3 fun n34 =>
  br ((n33 : Int) == n34) (
  ldI .i64 ((⟨k1, 0, none⟩ : Addr).add 22) w3 fun n35 =>
  ldI .i64 ((⟨k2, 0, none⟩ : Addr).add 22) w3 fun n36 =>
  br ((n35 : Int) == n36) (
  ldI .i64 ((⟨k1, 0, none⟩ : Addr).add 23) w3 fun n37 =>
  ldI .i64 ((⟨k2, 0, none⟩ : Addr).add 23) w3 fun n38 =>
  R (.bool ((n37 : Int) == n38)) w3) (
  R (.bool false) w3)) (
  R (.bool false) w3)) (
  R (.bool false) w3)) (
  R (.bool false) w3)) (
  R (.bool false) w3)) (
  R (.bool false) w3)) (
  R (.bool false) w3)) (
  R (.bool false) w3)))
@[irreducible] def tenonref08_Same_ann : Ann := .seq .none (.seq .none (.seq (.seq .none (.one (.loop [(5, .int .i64)] (.seq .none (.seq (.one (.seq (.draw [[], [0], [], [0, 1, 2], [0, 1, 2, 3], [], [5], [], [5, 6, 7], [5, 6, 7, 8], [0, 1, 2, 3, 4, 5, 6, 7, 8, 9]] (ol [0, 1, 2, 3, 4, 5, 6, 7, 8, 9, 10] .nil)) .none)) .none))))) .none))
theorem tenonref08_Same_call {x0 : Array Value} {x1 : Array Value} {R : Value → World → Prop} {w : World} (h : tenonref08_Same x0 x1 R w) : call Try.prog 16 #[.agg x0, .agg x1] w R :=
  call_of_fnW plain mixed Try.func16 tenonref08_Same_ann (Eq.mp (by kernel_rfl : tenonref08_Same x0 x1 R w = fnW Try.prog Try.f16 tenonref08_Same_ann #[.agg x0, .agg x1] R w) h)

def net_Net_Lose (x0 : Option Addr) (x1 : Int) (R : Value → World → Prop) (w : World) : Prop :=
  new #[.int .i64 0, .int .i64 0, .int .i64 0, .int .u64 0, .int .u64 0, .int .u8 0, .int .u8 0, .int .u8 0, .int .u8 0, .int .u8 0, .int .u8 0, .int .u8 0, .int .u8 0, .int .u8 0, .int .u8 0, .int .u8 0, .int .u8 0, .int .u8 0, .int .u8 0, .int .u8 0, .int .u8 0, .int .i64 0, .int .i64 0, .int .i64 0, .slice none 0 0] 35 w fun k1 w1 =>
  call Try.prog 24 #[.pointer x0, .int .i64 x1] w1 fun v2 w2 =>
  ∃ (n3 : Int) (n4 : Int),
  v2 = .tuple #[.int .i64 n3, .int .i64 n4] ∧
  br ((n4 : Int) != 0) (
  stA Try.prog (⟨k1, 0, none⟩ : Addr) 25 #[.int .i64 0, .int .i64 0, .int .i64 0, .int .u64 0, .int .u64 0, .int .u8 0, .int .u8 0, .int .u8 0, .int .u8 0, .int .u8 0, .int .u8 0, .int .u8 0, .int .u8 0, .int .u8 0, .int .u8 0, .int .u8 0, .int .u8 0, .int .u8 0, .int .u8 0, .int .u8 0, .int .u8 0, .int .i64 0, .int .i64 0, .int .i64 0, .slice none 0 0] w2 fun w3 =>
  ldA (⟨k1, 0, none⟩ : Addr) 25 w3 fun g5 =>
  R (.tuple #[.agg g5, .int .i64 n4]) w3) (
  nn x0 fun a6 =>
  ldS (a6.add 1) w2 fun p7 l7 c7 =>
  idx p7 l7 n3 1 fun a8 =>
  ldS a8 w2 fun p9 l9 c9 =>
  call Try.prog 25 #[.slice p9 l9 c9] w2 fun v10 w4 =>
  ∃ (g11 : Array Value) (n12 : Int),
  v10 = .tuple #[.agg g11, .int .i64 n12] ∧
  new #[.int .i64 0, .int .i64 0, .int .i64 0, .int .u64 0, .int .u64 0, .int .u8 0, .int .u8 0, .int .u8 0, .int .u8 0, .int .u8 0, .int .u8 0, .int .u8 0, .int .u8 0, .int .u8 0, .int .u8 0, .int .u8 0, .int .u8 0, .int .u8 0, .int .u8 0, .int .u8 0, .int .u8 0, .int .i64 0, .int .i64 0, .int .i64 0, .slice none 0 0] 35 w4 fun k13 w5 =>
  stA Try.prog (⟨k13, 0, none⟩ : Addr) 25 g11 w5 fun w6 =>
  nn x0 fun a14 =>
  ldS (a14.add 1) w6 fun p15 l15 c15 =>
  arith .i64 (n3 + 1) fun n16 =>
  call Try.prog 26 #[.slice p15 l15 c15, .int .i64 n3, .int .i64 n16] w6 fun v17 w7 =>
  asS v17 fun p18 l18 c18 =>
  nn x0 fun a19 =>
  st (a19.add 1) (.slice p18 l18 c18) w7 fun w8 =>
  ldA (⟨k13, 0, none⟩ : Addr) 25 w8 fun g20 =>
  stA Try.prog (⟨k1, 0, none⟩ : Addr) 25 g20 w8 fun w9 =>
  ldA (⟨k1, 0, none⟩ : Addr) 25 w9 fun g21 =>
  R (.tuple #[.agg g21, .int .i64 0]) w9)
@[irreducible] def net_Net_Lose_ann : Ann := .none
theorem net_Net_Lose_call {x0 : Option Addr} {x1 : Int} {R : Value → World → Prop} {w : World} (h : net_Net_Lose x0 x1 R w) : call Try.prog 17 #[.pointer x0, .int .i64 x1] w R :=
  call_of_fnW plain mixed Try.func17 net_Net_Lose_ann (Eq.mp (by kernel_rfl : net_Net_Lose x0 x1 R w = fnW Try.prog Try.f17 net_Net_Lose_ann #[.pointer x0, .int .i64 x1] R w) h)

def tenonref23_New (x0 : Int) (R : Value → World → Prop) (w : World) : Prop :=
  br (decide ((x0 : Int) < 1)) (
  R (.pointer none) w) (
  br (decide ((x0 : Int) > 65536)) (
  R (.pointer none) w) (
  new #[.int .i64 x0, .slice none 0 0, .slice none 0 0, .slice none 0 0] 52 w fun k1 w1 =>
  R (.pointer (some (⟨k1, 0, none⟩ : Addr))) w1))
@[irreducible] def tenonref23_New_ann : Ann := .none
theorem tenonref23_New_call {x0 : Int} {R : Value → World → Prop} {w : World} (h : tenonref23_New x0 R w) : call Try.prog 18 #[.int .i64 x0] w R :=
  call_of_fnW plain mixed Try.func18 tenonref23_New_ann (Eq.mp (by kernel_rfl : tenonref23_New x0 R w = fnW Try.prog Try.f18 tenonref23_New_ann #[.int .i64 x0] R w) h)

def tenonlaw23_do (x0 : Option Addr) (x1 : Option Addr) (x2 : Array Value) (R : Value → World → Prop) (w : World) : Prop :=
  new x2 37 w fun k1 w1 =>
  ldI .i64 ((⟨k1, 0, none⟩ : Addr).add 0) w1 fun n2 =>
  call Try.prog 11 #[.int .i64 n2, .int .i64 7] w1 fun v3 w2 =>
  asI .i64 v3 fun n4 =>
  br (decide ((n4 : Int) ≤ 2)) (
  ldA ((⟨k1, 0, none⟩ : Addr).add 2) 25 w2 fun g5 =>
  call Try.prog 12 #[.pointer x0, .agg g5] w2 fun v6 w3 =>
  ∃ (n7 : Int) (n8 : Int),
  v6 = .tuple #[.int .u64 n7, .int .i64 n8] ∧
  ldA ((⟨k1, 0, none⟩ : Addr).add 2) 25 w3 fun g9 =>
  call Try.prog 27 #[.pointer x1, .agg g9] w3 fun v10 w4 =>
  ∃ (n11 : Int) (n12 : Int),
  v10 = .tuple #[.int .u64 n11, .int .i64 n12] ∧
  br ((n7 : Int) == n11) (
  R (.bool ((n8 : Int) == n12)) w4) (
  R (.bool false) w4)) (
  nn x1 fun a13 =>
  ldS (a13.add 1) w2 fun p14 l14 c14 =>
  br ((l14 : Int) == 0) (
  ldI .i64 ((⟨k1, 0, none⟩ : Addr).add 1) w2 fun n15 =>
  call Try.prog 14 #[.pointer x0, .int .i64 n15] w2 fun v16 w5 =>
  ∃ (g17 : Array Value) (b18 : Bool) (n19 : Int),
  v16 = .tuple #[.agg g17, .bool b18, .int .i64 n19] ∧
  new #[.int .i64 0, .int .i64 0, .int .i64 0, .int .u64 0, .int .u64 0, .int .u8 0, .int .u8 0, .int .u8 0, .int .u8 0, .int .u8 0, .int .u8 0, .int .u8 0, .int .u8 0, .int .u8 0, .int .u8 0, .int .u8 0, .int .u8 0, .int .u8 0, .int .u8 0, .int .u8 0, .int .u8 0, .int .i64 0, .int .i64 0, .int .i64 0, .slice none 0 0] 35 w5 fun k20 w6 =>
  stA Try.prog (⟨k20, 0, none⟩ : Addr) 25 g17 w6 fun w7 =>
  ldI .i64 ((⟨k1, 0, none⟩ : Addr).add 1) w7 fun n21 =>
  call Try.prog 17 #[.pointer x0, .int .i64 n21] w7 fun v22 w8 =>
  ∃ (g23 : Array Value) (n24 : Int),
  v22 = .tuple #[.agg g23, .int .i64 n24] ∧
  new #[.int .i64 0, .int .i64 0, .int .i64 0, .int .u64 0, .int .u64 0, .int .u8 0, .int .u8 0, .int .u8 0, .int .u8 0, .int .u8 0, .int .u8 0, .int .u8 0, .int .u8 0, .int .u8 0, .int .u8 0, .int .u8 0, .int .u8 0, .int .u8 0, .int .u8 0, .int .u8 0, .int .u8 0, .int .i64 0, .int .i64 0, .int .i64 0, .slice none 0 0] 35 w8 fun k25 w9 =>
  stA Try.prog (⟨k25, 0, none⟩ : Addr) 25 g23 w9 fun w10 =>
  ldA (⟨k20, 0, none⟩ : Addr) 25 w10 fun g26 =>
  call Try.prog 16 #[.agg g26, .agg #[.int .i64 0, .int .i64 0, .int .i64 0, .int .u64 0, .int .u64 0, .int .u8 0, .int .u8 0, .int .u8 0, .int .u8 0, .int .u8 0, .int .u8 0, .int .u8 0, .int .u8 0, .int .u8 0, .int .u8 0, .int .u8 0, .int .u8 0, .int .u8 0, .int .u8 0, .int .u8 0, .int .u8 0, .int .i64 0, .int .i64 0, .int .i64 0, .slice none 0 0]] w10 fun v27 w11 =>
  asB v27 fun b28 =>
  br b28 (
  br (!b18) (
  br ((n19 : Int) == 12) (
  ldA (⟨k25, 0, none⟩ : Addr) 25 w11 fun g29 =>
  call Try.prog 16 #[.agg g29, .agg #[.int .i64 0, .int .i64 0, .int .i64 0, .int .u64 0, .int .u64 0, .int .u8 0, .int .u8 0, .int .u8 0, .int .u8 0, .int .u8 0, .int .u8 0, .int .u8 0, .int .u8 0, .int .u8 0, .int .u8 0, .int .u8 0, .int .u8 0, .int .u8 0, .int .u8 0, .int .u8 0, .int .u8 0, .int .i64 0, .int .i64 0, .int .i64 0, .slice none 0 0]] w11 fun v30 w12 =>
  asB v30 fun b31 =>
  br b31 (
  br ((n24 : Int) == 12) (
  ldI .i64 ((⟨k1, 0, none⟩ : Addr).add 1) w12 fun n32 =>
  call Try.prog 13 #[.pointer x0, .int .i64 n32] w12 fun v33 w13 =>
  asI .i64 v33 fun n34 =>
  R (.bool ((n34 : Int) == 12)) w13) (
  R (.bool false) w12)) (
  R (.bool false) w12)) (
  R (.bool false) w11)) (
  R (.bool false) w11)) (
  R (.bool false) w11)) (
  ∃ J35 : Bool → World → Prop, (
  br ((n4 : Int) == 3) (
  J35 ((n4 : Int) == 3) w2) (
  J35 ((n4 : Int) == 4) w2)) ∧
  ∀ (u36 : Nat → Value) (b37 : Bool) (w14 : World), J35 b37 w14 →
  br b37 (
  ldI .i64 ((⟨k1, 0, none⟩ : Addr).add 1) w14 fun n38 =>
  call Try.prog 14 #[.pointer x0, .int .i64 n38] w14 fun v39 w15 =>
  ∃ (g40 : Array Value) (b41 : Bool) (n42 : Int),
  v39 = .tuple #[.agg g40, .bool b41, .int .i64 n42] ∧
  new #[.int .i64 0, .int .i64 0, .int .i64 0, .int .u64 0, .int .u64 0, .int .u8 0, .int .u8 0, .int .u8 0, .int .u8 0, .int .u8 0, .int .u8 0, .int .u8 0, .int .u8 0, .int .u8 0, .int .u8 0, .int .u8 0, .int .u8 0, .int .u8 0, .int .u8 0, .int .u8 0, .int .u8 0, .int .i64 0, .int .i64 0, .int .i64 0, .slice none 0 0] 35 w15 fun k43 w16 =>
  stA Try.prog (⟨k43, 0, none⟩ : Addr) 25 g40 w16 fun w17 =>
  ldI .i64 ((⟨k1, 0, none⟩ : Addr).add 1) w17 fun n44 =>
  call Try.prog 28 #[.pointer x1, .int .i64 n44] w17 fun v45 w18 =>
  asA v45 fun g46 =>
  new #[.int .i64 0, .int .i64 0, .int .i64 0, .int .u64 0, .int .u64 0, .int .u8 0, .int .u8 0, .int .u8 0, .int .u8 0, .int .u8 0, .int .u8 0, .int .u8 0, .int .u8 0, .int .u8 0, .int .u8 0, .int .u8 0, .int .u8 0, .int .u8 0, .int .u8 0, .int .u8 0, .int .u8 0, .int .i64 0, .int .i64 0, .int .i64 0, .slice none 0 0] 35 w18 fun k47 w19 =>
  stA Try.prog (⟨k47, 0, none⟩ : Addr) 25 g46 w19 fun w20 =>
  ldA (⟨k43, 0, none⟩ : Addr) 25 w20 fun g48 =>
  ldA (⟨k47, 0, none⟩ : Addr) 25 w20 fun g49 =>
  call Try.prog 16 #[.agg g48, .agg g49] w20 fun v50 w21 =>
  asB v50 fun b51 =>
  br b51 (
  ldA (⟨k47, 0, none⟩ : Addr) 25 w21 fun g52 =>
  call Try.prog 29 #[.pointer x1, .agg g52] w21 fun v53 w22 =>
  asB v53 fun b54 =>
  br (b41 == b54) (
  R (.bool ((n42 : Int) == 0)) w22) (
  R (.bool false) w22)) (
  R (.bool false) w21)) (
  br ((n4 : Int) == 5) (
  ldI .i64 ((⟨k1, 0, none⟩ : Addr).add 1) w14 fun n55 =>
  call Try.prog 17 #[.pointer x0, .int .i64 n55] w14 fun v56 w23 =>
  ∃ (g57 : Array Value) (n58 : Int),
  v56 = .tuple #[.agg g57, .int .i64 n58] ∧
  new #[.int .i64 0, .int .i64 0, .int .i64 0, .int .u64 0, .int .u64 0, .int .u8 0, .int .u8 0, .int .u8 0, .int .u8 0, .int .u8 0, .int .u8 0, .int .u8 0, .int .u8 0, .int .u8 0, .int .u8 0, .int .u8 0, .int .u8 0, .int .u8 0, .int .u8 0, .int .u8 0, .int .u8 0, .int .i64 0, .int .i64 0, .int .i64 0, .slice none 0 0] 35 w23 fun k59 w24 =>
  stA Try.prog (⟨k59, 0, none⟩ : Addr) 25 g57 w24 fun w25 =>
  ldA (⟨k59, 0, none⟩ : Addr) 25 w25.drew fun g60 =>
  ldI .i64 ((⟨k1, 0, none⟩ : Addr).add 1) w25.drew fun n61 =>
  call Try.prog 28 #[.pointer x1, .int .i64 n61] w25.drew fun v62 w26 =>
  asA v62 fun g63 =>
  keepS (cellsOf (⟨k59, 0, none⟩ : Addr) g60) w26 (
  call Try.prog 16 #[.agg g60, .agg g63] w26 fun v64 w27 =>
  asB v64 fun b65 =>
  br b65 (
  R (.bool ((n58 : Int) == 0)) w27) (
  R (.bool false) w27))) (
  ldI .i64 ((⟨k1, 0, none⟩ : Addr).add 1) w14 fun n66 =>
  call Try.prog 13 #[.pointer x0, .int .i64 n66] w14 fun v67 w28 =>
  asI .i64 v67 fun n68 =>
  nn x1 fun a69 =>
  ldS (a69.add 1) w28.drew fun p70 l70 c70 =>
  nn x1 fun a71 =>
  ldI .i64 (a71.add 0) w28.drew fun n72 =>
  br (decide ((l70 : Int) ≥ n72)) (
  R (.bool ((n68 : Int) == 3)) w28.drew) (
  nn x1 fun a73 =>
  ldS (a73.add 1) w28.drew.drew fun p74 l74 c74 =>
  ldI .i64 ((⟨k1, 0, none⟩ : Addr).add 1) w28.drew.drew fun n75 =>
  nn x1 fun a76 =>
  ldS (a76.add 1) w28.drew.drew fun p77 l77 c77 =>
  (call Try.prog 11 #[.int .i64 n75, .int .i64 ((l77 : Int))] w28.drew.drew fun v78 w29 =>
  asI .i64 v78 fun n79 =>
  w29.cell? (a73.add 1) = some (.slice p74 l74 c74) ∧
  idx p74 l74 n79 25 fun a80 =>
  ldA a80 25 w29 fun g81 =>
  new #[.int .i64 0, .int .i64 0, .int .i64 0, .int .u64 0, .int .u64 0, .int .u8 0, .int .u8 0, .int .u8 0, .int .u8 0, .int .u8 0, .int .u8 0, .int .u8 0, .int .u8 0, .int .u8 0, .int .u8 0, .int .u8 0, .int .u8 0, .int .u8 0, .int .u8 0, .int .u8 0, .int .u8 0, .int .i64 0, .int .i64 0, .int .i64 0, .slice none 0 0] 35 w29 fun k82 w30 =>
  stA Try.prog (⟨k82, 0, none⟩ : Addr) 25 g81 w30 fun w31 =>
  nn x1 fun a83 =>
  ldS (a83.add 1) w31.drew fun p84 l84 c84 =>
  ldA (⟨k82, 0, none⟩ : Addr) 25 w31.drew fun g85 =>
  (g85 : Array Value).size = 25 ∧
  new g85 35 w31.drew fun k86 w32 =>
  runsS Try.prog (Builtin.append_ #[29, 29] 29 #[.slice p84 l84 c84, .slice (some (⟨k86, 0, none⟩ : Addr)) 1 1]) w32 fun p87 l87 c87 w33 =>
  nn x1 fun a88 =>
  st (a88.add 1) (.slice p87 l87 c87) w33 fun w34 =>
  R (.bool ((n68 : Int) == 0)) w34) ∧
  (new #[.int .i64 0, .int .i64 0, .int .i64 0, .int .u64 0, .int .u64 0, .int .u8 0, .int .u8 0, .int .u8 0, .int .u8 0, .int .u8 0, .int .u8 0, .int .u8 0, .int .u8 0, .int .u8 0, .int .u8 0, .int .u8 0, .int .u8 0, .int .u8 0, .int .u8 0, .int .u8 0, .int .u8 0, .int .i64 0, .int .i64 0, .int .i64 0, .slice none 0 0] 35 w28.drew.drew fun k89 w35 =>
  call Try.prog 11 #[.int .i64 n75, .int .i64 ((l77 : Int))] w35 fun v90 w36 =>
  asI .i64 v90 fun n91 =>
  w36.cell? (a73.add 1) = some (.slice p74 l74 c74) ∧
  idx p74 l74 n91 25 fun a92 =>
  ldA a92 25 w36 fun g93 =>
  stA Try.prog (⟨k89, 0, none⟩ : Addr) 25 g93 w36 fun w37 =>
  nn x1 fun a94 =>
  ldS (a94.add 1) w37.drew fun p95 l95 c95 =>
  ldA (⟨k89, 0, none⟩ : Addr) 25 w37.drew fun g96 =>
  (g96 : Array Value).size = 25 ∧
  new g96 35 w37.drew fun k97 w38 =>
  runsS Try.prog (Builtin.append_ #[29, 29] 29 #[.slice p95 l95 c95, .slice (some (⟨k97, 0, none⟩ : Addr)) 1 1]) w38 fun p98 l98 c98 w39 =>
  nn x1 fun a99 =>
  st (a99.add 1) (.slice p98 l98 c98) w39 fun w40 =>
  R (.bool ((n68 : Int) == 0)) w40))))))
@[irreducible] def tenonlaw23_do_ann : Ann := .seq .none (.seq .none (.seq .none (.seq .none (.seq (.seq .none (.one (.meet [(101, .bool)] .none (.seq .none (.seq .none (.seq (.seq .none (.seq (.draw [[], [], [], [2], [1, 2, 3], [0, 1, 2, 3, 4], [0, 1, 2, 3, 4, 5], [0, 1, 2, 3, 4, 5, 6], [0, 1, 2, 3, 4, 5, 6, 7], [0, 1, 2, 3, 4, 5, 6, 7, 8], [0, 1, 2, 3, 4, 5, 6, 7, 8, 9]] (ol [0, 1, 2, 3, 4, 5, 6, 7, 8, 9, 10] .nil)) .none)) .none)))))) (.seq .none (.seq (.seq (.draw [[], [0], [0, 1], [0, 1, 2], [0, 1, 2, 3], [], [5], [5, 6], [5, 6, 7], [0, 1, 2, 3, 4, 5, 6, 7, 8]] (ol [0, 1, 2, 3, 4, 5, 6, 7, 8, 9] .nil)) .none) (.seq (.draw [[], [0], [0, 1], [0, 1, 2], [], [4], [], [6], [6, 7], [6, 7, 8], [6, 7, 8, 9], [4, 5, 6, 7, 8, 9, 10], [0, 1, 2, 3, 4, 5, 6, 7, 8, 9, 10, 11], [0, 1, 2, 3, 4, 5, 6, 7, 8, 9, 10, 11, 12], [], [0, 1, 2, 3, 4, 5, 6, 7, 8, 9, 10, 11, 12, 13, 14]] (ol [0, 1, 2, 3, 4, 5, 6, 7, 8, 9, 10] (.fork 11 (ol [12, 13, 14, 15] .nil) 14 (ol [11, 12, 13, 15] .nil)))) (.seq (.draw [[], [], [1], [1, 2], [1, 2, 3], [], [5], [1, 2, 3, 4, 5, 6], [0, 1, 2, 3, 4, 5, 6, 7], [0, 1, 2, 3, 4, 5, 6, 7, 8], [0, 1, 2, 3, 4, 5, 6, 7, 8, 9]] (ol [0, 1, 2, 3, 4, 5, 6, 7, 8, 9, 10] .nil)) .none))))))))
theorem tenonlaw23_do_call {x0 : Option Addr} {x1 : Option Addr} {x2 : Array Value} {R : Value → World → Prop} {w : World} (h : tenonlaw23_do x0 x1 x2 R w) : call Try.prog 19 #[.pointer x0, .pointer x1, .agg x2] w R :=
  call_of_fnW plain mixed Try.func19 tenonlaw23_do_ann (Eq.mp (by kernel_rfl : tenonlaw23_do x0 x1 x2 R w = fnW Try.prog Try.f19 tenonlaw23_do_ann #[.pointer x0, .pointer x1, .agg x2] R w) h)

def tenonlaw23_same (x0 : Option Addr) (y0 z0 : Nat) (x1 : Option Addr) (y1 z1 : Nat) (R : Value → World → Prop) (w : World) : Prop :=
  br ((y0 : Int) != (y1 : Int)) (
  R (.bool false) w) (
  ∃ I1 : Int → World → Nat → Prop, (∃ m2, I1 0 w m2) ∧
  ∀ (u3 : Nat → Value) (n4 : Int) (w1 : World) (m5 : Nat), I1 n4 w1 m5 →
  br (decide ((n4 : Int) < (y0 : Int))) (
  idx x0 y0 n4 25 fun a6 =>
  ldA a6 25 w1.drew fun g7 =>
  idx x1 y1 n4 25 fun a8 =>
  ldA a8 25 w1.drew fun g9 =>
  call Try.prog 16 #[.agg g7, .agg g9] w1.drew fun v10 w2 =>
  asB v10 fun b11 =>
  br (!b11) (
  R (.bool false) w2) (
  arith .i64 (n4 + 1) fun n12 =>
  ∃ m13, m13 < m5 ∧ I1 n12 w2 m13)) (
  R (.bool true) w1))
@[irreducible] def tenonlaw23_same_ann : Ann := .seq .none (.seq .none (.seq (.seq .none (.one (.loop [(5, .int .i64)] (.seq .none (.seq (.one (.seq (.draw [[], [], [0, 1], [0, 1, 2], [], [], [4, 5], [4, 5, 6], [0, 1, 2, 3, 4, 5, 6, 7], [0, 1, 2, 3, 4, 5, 6, 7, 8]] (ol [0, 1, 2, 3, 4, 5, 6, 7, 8, 9] .nil)) .none)) .none))))) .none))
theorem tenonlaw23_same_call {x0 : Option Addr} {y0 z0 : Nat} {x1 : Option Addr} {y1 z1 : Nat} {R : Value → World → Prop} {w : World} (h : tenonlaw23_same x0 y0 z0 x1 y1 z1 R w) : call Try.prog 20 #[.slice x0 y0 z0, .slice x1 y1 z1] w R :=
  call_of_fnW plain mixed Try.func20 tenonlaw23_same_ann (Eq.mp (by kernel_rfl : tenonlaw23_same x0 y0 z0 x1 y1 z1 R w = fnW Try.prog Try.f20 tenonlaw23_same_ann #[.slice x0 y0 z0, .slice x1 y1 z1] R w) h)

def tenonlaw23_row (x0 : Option Addr) (x1 : Int) (R : Value → World → Prop) (w : World) : Prop :=
  new #[.int .i64 x1] 3 w fun k1 w1 =>
  new #[.slice none 0 0] 29 w1 fun k2 w2 =>
  call Try.prog 30 #[.pointer x0] w2 fun v3 w3 =>
  asF v3 fun f4 q4 t4 =>
  rangeW Try.prog (.func f4 q4 t4) 2 (fun xs5 N6 J7 T8 w4 => ∃ (n9 : Int) (g10 : Array Value), xs5 = #[.int .i64 n9, .agg g10] ∧
  new #[.int .i64 0, .int .i64 0, .int .i64 0, .int .u64 0, .int .u64 0, .int .u8 0, .int .u8 0, .int .u8 0, .int .u8 0, .int .u8 0, .int .u8 0, .int .u8 0, .int .u8 0, .int .u8 0, .int .u8 0, .int .u8 0, .int .u8 0, .int .u8 0, .int .u8 0, .int .u8 0, .int .u8 0, .int .i64 0, .int .i64 0, .int .i64 0, .slice none 0 0] 35 w4 fun k11 w5 =>
  stA Try.prog (⟨k11, 0, none⟩ : Addr) 25 g10 w5 fun w6 =>
  T8 w6 fun w7 =>
  ldS (⟨k2, 0, none⟩ : Addr) w7 fun p12 l12 c12 =>
  ldI .i64 (⟨k1, 0, none⟩ : Addr) w7 fun n13 =>
  br (decide ((l12 : Int) ≥ n13)) (
  J7 (.exit 0) w7) (
  ldS (⟨k2, 0, none⟩ : Addr) w7 fun p14 l14 c14 =>
  br ((n9 : Int) != (l14 : Int)) (
  J7 (.exit 0) w7) (
  ldS (⟨k2, 0, none⟩ : Addr) w7 fun p15 l15 c15 =>
  ldA (⟨k11, 0, none⟩ : Addr) 25 w7 fun g16 =>
  (g16 : Array Value).size = 25 ∧
  new g16 35 w7 fun k17 w8 =>
  runsS Try.prog (Builtin.append_ #[29, 29] 29 #[.slice p15 l15 c15, .slice (some (⟨k17, 0, none⟩ : Addr)) 1 1]) w8 fun p18 l18 c18 w9 =>
  st (⟨k2, 0, none⟩ : Addr) (.slice p18 l18 c18) w9 fun w10 =>
  N6 w10))) (fun D19 w11 =>
  ldS (⟨k2, 0, none⟩ : Addr) w11 fun p20 l20 c20 =>
  shutD D19 w11 fun w12 =>
  R (.slice p20 l20 c20) w12) (fun D21 c22 w13 => jmp c22 (
  False) [(0, ldS (⟨k2, 0, none⟩ : Addr) w13 fun p23 l23 c23 =>
  shutD D21 w13 fun w14 =>
  R (.slice p23 l23 c23) w14)]) w3
@[irreducible] def tenonlaw23_row_ann : Ann := .seq .none (.seq .none (.seq (.seq .none (.seq .none (.seq (.seq .none (.one (.range [.int .i64, .agg] .none .none))) .none))) .none))
theorem tenonlaw23_row_call {x0 : Option Addr} {x1 : Int} {R : Value → World → Prop} {w : World} (h : tenonlaw23_row x0 x1 R w) : call Try.prog 21 #[.pointer x0, .int .i64 x1] w R :=
  call_of_fnW plain mixed Try.func21 tenonlaw23_row_ann (Eq.mp (by kernel_rfl : tenonlaw23_row x0 x1 R w = fnW Try.prog Try.f21 tenonlaw23_row_ann #[.pointer x0, .int .i64 x1] R w) h)

def tenonlaw23_ping  (R : Value → World → Prop) (w : World) : Prop :=
  new #[.int .i64 0, .int .i64 0, .int .i64 0, .int .u64 0, .int .u64 0, .int .u8 0, .int .u8 0, .int .u8 0, .int .u8 0, .int .u8 0, .int .u8 0, .int .u8 0, .int .u8 0, .int .u8 0, .int .u8 0, .int .u8 0, .int .u8 0, .int .u8 0, .int .u8 0, .int .u8 0, .int .u8 0, .int .i64 0, .int .i64 0, .int .i64 0, .slice none 0 0] 35 w fun k1 w1 =>
  stA Try.prog (⟨k1, 0, none⟩ : Addr) 25 #[.int .i64 5, .int .i64 0, .int .i64 1, .int .u64 0, .int .u64 0, .int .u8 0, .int .u8 0, .int .u8 0, .int .u8 0, .int .u8 0, .int .u8 0, .int .u8 0, .int .u8 0, .int .u8 0, .int .u8 0, .int .u8 0, .int .u8 0, .int .u8 0, .int .u8 0, .int .u8 0, .int .u8 0, .int .i64 0, .int .i64 0, .int .i64 0, .slice none 0 0] w1 fun w2 =>
  ldA (⟨k1, 0, none⟩ : Addr) 25 w2 fun g2 =>
  R (.agg g2) w2
@[irreducible] def tenonlaw23_ping_ann : Ann := .none
theorem tenonlaw23_ping_call  {R : Value → World → Prop} {w : World} (h : tenonlaw23_ping  R w) : call Try.prog 22 #[] w R :=
  call_of_fnW plain mixed Try.func22 tenonlaw23_ping_ann (Eq.mp (by kernel_rfl : tenonlaw23_ping  R w = fnW Try.prog Try.f22 tenonlaw23_ping_ann #[] R w) h)

def packet_Encode (x0 : Array Value) (R : Value → World → Prop) (w : World) : Prop :=
  new x0 35 w fun k1 w1 =>
  ldA (⟨k1, 0, none⟩ : Addr) 25 w1 fun g2 =>
  call Try.prog 31 #[.agg g2] w1 fun v3 w2 =>
  asI .i64 v3 fun n4 =>
  br ((n4 : Int) != 0) (
  R (.tuple #[.slice none 0 0, .int .i64 n4]) w2) (
  call Try.prog 32 #[] w2 fun v5 w3 =>
  asP v5 fun p6 =>
  ldI .i64 ((⟨k1, 0, none⟩ : Addr).add 0) w3 fun n7 =>
  ldI .i64 ((⟨k1, 0, none⟩ : Addr).add 1) w3 fun n8 =>
  ldI .i64 ((⟨k1, 0, none⟩ : Addr).add 2) w3 fun n9 =>
  ∃ I10 : Int → World → Nat → Prop, (∃ m11, I10 0 w3 m11) ∧
  ∀ (u12 : Nat → Value) (n13 : Int) (w4 : World) (m14 : Nat), I10 n13 w4 m14 →
  br (decide ((n13 : Int) < 3)) (
  (0 ≤ n13 ∧ n13 < (3 : Int)) ∧
  fldI .i64 #[.int .i64 n7, .int .i64 n8, .int .i64 n9] (Int.toNat n13 * 1) fun n15 =>
  arith .u64 n15 fun n16 =>
  call Try.prog 33 #[.pointer p6, .int .u64 n16, .int .i64 1] w4 fun v17 w5 =>
  asI .i64 v17 fun n18 =>
  arith .i64 (n13 + 1) fun n19 =>
  ∃ m20, m20 < m14 ∧ I10 n19 w5 m20) (
  ldI .u64 ((⟨k1, 0, none⟩ : Addr).add 3) w4 fun n21 =>
  call Try.prog 33 #[.pointer p6, .int .u64 n21, .int .i64 8] w4 fun v22 w6 =>
  asI .i64 v22 fun n23 =>
  ldI .i64 ((⟨k1, 0, none⟩ : Addr).add 0) w6 fun n24 =>
  call Try.prog 34 #[.int .i64 n24] w6 fun v25 w7 =>
  ∃ (b26 : Bool) (b27 : Bool) (b28 : Bool) (b29 : Bool) (b30 : Bool) (b31 : Bool),
  v25 = .tuple #[.bool b26, .bool b27, .bool b28, .bool b29, .bool b30, .bool b31] ∧
  ∃ J32 : World → Prop, (
  br b26 (
  ldI .u64 ((⟨k1, 0, none⟩ : Addr).add 4) w7 fun n33 =>
  call Try.prog 33 #[.pointer p6, .int .u64 n33, .int .i64 8] w7 fun v34 w8 =>
  asI .i64 v34 fun n35 =>
  J32  w8) (
  J32  w7)) ∧
  ∀ (u36 : Nat → Value)  (w9 : World), J32  w9 →
  ldA ((⟨k1, 0, none⟩ : Addr).add 5) 16 w9 fun g37 =>
  ∃ I38 : Int → World → Nat → Prop, (∃ m39, I38 0 w9 m39) ∧
  ∀ (u40 : Nat → Value) (n41 : Int) (w10 : World) (m42 : Nat), I38 n41 w10 m42 →
  br (decide ((n41 : Int) < 16)) (
  (0 ≤ n41 ∧ n41 < (16 : Int)) ∧
  fldI .u8 g37 (Int.toNat n41 * 1) fun n43 =>
  br b27 (
  arith .u64 n43 fun n44 =>
  call Try.prog 33 #[.pointer p6, .int .u64 n44, .int .i64 1] w10 fun v45 w11 =>
  asI .i64 v45 fun n46 =>
  arith .i64 (n41 + 1) fun n47 =>
  ∃ m48, m48 < m42 ∧ I38 n47 w11 m48) (
  arith .i64 (n41 + 1) fun n49 =>
  ∃ m50, m50 < m42 ∧ I38 n49 w10 m50)) (
  ∃ J51 : World → Prop, (
  br b28 (
  ldI .i64 ((⟨k1, 0, none⟩ : Addr).add 21) w10 fun n52 =>
  arith .u64 n52 fun n53 =>
  call Try.prog 33 #[.pointer p6, .int .u64 n53, .int .i64 1] w10 fun v54 w12 =>
  asI .i64 v54 fun n55 =>
  J51  w12) (
  J51  w10)) ∧
  ∀ (u56 : Nat → Value)  (w13 : World), J51  w13 →
  ∃ J57 : World → Prop, (
  br b29 (
  ldI .i64 ((⟨k1, 0, none⟩ : Addr).add 23) w13 fun n58 =>
  arith .u64 n58 fun n59 =>
  call Try.prog 33 #[.pointer p6, .int .u64 n59, .int .i64 1] w13 fun v60 w14 =>
  asI .i64 v60 fun n61 =>
  J57  w14) (
  J57  w13)) ∧
  ∀ (u62 : Nat → Value)  (w15 : World), J57  w15 →
  ∃ J63 : World → Prop, (
  br b30 (
  ldI .i64 ((⟨k1, 0, none⟩ : Addr).add 22) w15 fun n64 =>
  arith .u64 n64 fun n65 =>
  call Try.prog 33 #[.pointer p6, .int .u64 n65, .int .i64 8] w15 fun v66 w16 =>
  asI .i64 v66 fun n67 =>
  J63  w16) (
  J63  w15)) ∧
  ∀ (u68 : Nat → Value)  (w17 : World), J63  w17 →
  ∃ J69 : World → Prop, (
  br b31 (
  ldS ((⟨k1, 0, none⟩ : Addr).add 24) w17 fun p70 l70 c70 =>
  arith .u64 ((l70 : Int)) fun n71 =>
  call Try.prog 33 #[.pointer p6, .int .u64 n71, .int .i64 8] w17 fun v72 w18 =>
  asI .i64 v72 fun n73 =>
  J69  w18) (
  J69  w17)) ∧
  ∀ (u74 : Nat → Value)  (w19 : World), J69  w19 →
  call Try.prog 35 #[.pointer p6] w19 fun v75 w20 =>
  asS v75 fun p76 l76 c76 =>
  ldS ((⟨k1, 0, none⟩ : Addr).add 24) w20 fun p77 l77 c77 =>
  ∃ I78 : Option Addr → Nat → Nat → Int → World → Nat → Prop, (∃ m79, I78 p76 l76 c76 0 w20 m79) ∧
  ∀ (u80 : Nat → Value) (p81 : Option Addr) (l81 c81 : Nat) (n82 : Int) (w21 : World) (m83 : Nat), I78 p81 l81 c81 n82 w21 m83 →
  br (decide ((n82 : Int) < (l77 : Int))) (
  idx p77 l77 n82 36 fun a84 =>
  ldA a84 36 w21 fun g85 =>
  new #[.int .u32 0, .int .u32 0, .int .u64 0, .int .u64 0, .int .u8 0, .int .u8 0, .int .u8 0, .int .u8 0, .int .u8 0, .int .u8 0, .int .u8 0, .int .u8 0, .int .u8 0, .int .u8 0, .int .u8 0, .int .u8 0, .int .u8 0, .int .u8 0, .int .u8 0, .int .u8 0, .int .u8 0, .int .u8 0, .int .u8 0, .int .u8 0, .int .u8 0, .int .u8 0, .int .u8 0, .int .u8 0, .int .u8 0, .int .u8 0, .int .u8 0, .int .u8 0, .int .u8 0, .int .u8 0, .int .u8 0, .int .u8 0] 77 w21 fun k86 w22 =>
  stA Try.prog (⟨k86, 0, none⟩ : Addr) 36 g85 w22 fun w23 =>
  ldA (⟨k86, 0, none⟩ : Addr) 36 w23 fun g87 =>
  call Try.prog 36 #[.agg g87] w23 fun v88 w24 =>
  ∃ (p89 : Option Addr) (l89 c89 : Nat) (n90 : Int),
  v88 = .tuple #[.slice p89 l89 c89, .int .i64 n90] ∧
  runsS Try.prog (Builtin.append_ #[66, 66] 66 #[.slice p81 l81 c81, .slice p89 l89 c89]) w24 fun p91 l91 c91 w25 =>
  arith .i64 (n82 + 1) fun n92 =>
  ∃ m93, m93 < m83 ∧ I78 p91 l91 c91 n92 w25 m93) (
  R (.tuple #[.slice p81 l81 c81, .int .i64 0]) w21))))
@[irreducible] def packet_Encode_ann : Ann := .seq .none (.seq .none (.seq .none (.seq (.seq .none (.one (.loop [(34, .int .i64)] .none))) (.seq .none (.seq .none (.meet [] .none (.seq (.seq .none (.one (.loop [(63, .int .i64)] .none))) (.meet [] .none (.meet [] .none (.meet [] .none (.meet [] .none (.seq .none (.seq (.seq .none (.one (.loop [(16, .slice), (102, .int .i64)] .none))) .none)))))))))))))
theorem packet_Encode_call {x0 : Array Value} {R : Value → World → Prop} {w : World} (h : packet_Encode x0 R w) : call Try.prog 23 #[.agg x0] w R :=
  call_of_fnW plain mixed Try.func23 packet_Encode_ann (Eq.mp (by kernel_rfl : packet_Encode x0 R w = fnW Try.prog Try.f23 packet_Encode_ann #[.agg x0] R w) h)

def net_Net_place (x0 : Option Addr) (x1 : Int) (R : Value → World → Prop) (w : World) : Prop :=
  call Try.prog 15 #[.pointer x0] w fun v1 w1 =>
  asI .i64 v1 fun n2 =>
  br ((n2 : Int) == 0) (
  R (.tuple #[.int .i64 0, .int .i64 12]) w1) (
  nn x0 fun a3 =>
  ldS (a3.add 1) w1 fun p4 l4 c4 =>
  rem x1 ((l4 : Int)) fun n5 =>
  br (decide ((n5 : Int) < 0)) (
  nn x0 fun a6 =>
  ldS (a6.add 1) w1 fun p7 l7 c7 =>
  arith .i64 (n5 + (l7 : Int)) fun n8 =>
  R (.tuple #[.int .i64 n8, .int .i64 0]) w1) (
  R (.tuple #[.int .i64 n5, .int .i64 0]) w1))
@[irreducible] def net_Net_place_ann : Ann := .none
theorem net_Net_place_call {x0 : Option Addr} {x1 : Int} {R : Value → World → Prop} {w : World} (h : net_Net_place x0 x1 R w) : call Try.prog 24 #[.pointer x0, .int .i64 x1] w R :=
  call_of_fnW plain mixed Try.func24 net_Net_place_ann (Eq.mp (by kernel_rfl : net_Net_place x0 x1 R w = fnW Try.prog Try.f24 net_Net_place_ann #[.pointer x0, .int .i64 x1] R w) h)

def packet_Decode (x0 : Option Addr) (y0 z0 : Nat) (R : Value → World → Prop) (w : World) : Prop :=
  new #[.int .i64 0, .int .i64 0, .int .i64 0, .int .u64 0, .int .u64 0, .int .u8 0, .int .u8 0, .int .u8 0, .int .u8 0, .int .u8 0, .int .u8 0, .int .u8 0, .int .u8 0, .int .u8 0, .int .u8 0, .int .u8 0, .int .u8 0, .int .u8 0, .int .u8 0, .int .u8 0, .int .u8 0, .int .i64 0, .int .i64 0, .int .i64 0, .slice none 0 0] 35 w fun k1 w1 =>
  call Try.prog 37 #[.slice x0 y0 z0] w1 fun v2 w2 =>
  asP v2 fun p3 =>
  new #[.pointer none] 96 w2 fun k4 w3 =>
  st (⟨k4, 0, none⟩ : Addr) (.pointer p3) w3 fun w4 =>
  new #[.int .i64 0, .int .i64 0, .int .i64 0, .int .u64 0, .int .u64 0, .int .u8 0, .int .u8 0, .int .u8 0, .int .u8 0, .int .u8 0, .int .u8 0, .int .u8 0, .int .u8 0, .int .u8 0, .int .u8 0, .int .u8 0, .int .u8 0, .int .u8 0, .int .u8 0, .int .u8 0, .int .u8 0, .int .i64 0, .int .i64 0, .int .i64 0, .slice none 0 0] 35 w4 fun k5 w5 =>
  call Try.prog 38 #[.int .i64 1, .pointer (some (⟨k4, 0, none⟩ : Addr))] w5 fun v6 w6 =>
  asI .u64 v6 fun n7 =>
  arith .i64 n7 fun n8 =>
  call Try.prog 38 #[.int .i64 1, .pointer (some (⟨k4, 0, none⟩ : Addr))] w6 fun v9 w7 =>
  asI .u64 v9 fun n10 =>
  arith .i64 n10 fun n11 =>
  call Try.prog 38 #[.int .i64 1, .pointer (some (⟨k4, 0, none⟩ : Addr))] w7 fun v12 w8 =>
  asI .u64 v12 fun n13 =>
  arith .i64 n13 fun n14 =>
  call Try.prog 38 #[.int .i64 8, .pointer (some (⟨k4, 0, none⟩ : Addr))] w8 fun v15 w9 =>
  asI .u64 v15 fun n16 =>
  st ((⟨k5, 0, none⟩ : Addr).add 0) (.int .i64 n8) w9 fun w10 =>
  st ((⟨k5, 0, none⟩ : Addr).add 1) (.int .i64 n11) w10 fun w11 =>
  st ((⟨k5, 0, none⟩ : Addr).add 2) (.int .i64 n14) w11 fun w12 =>
  st ((⟨k5, 0, none⟩ : Addr).add 3) (.int .u64 n16) w12 fun w13 =>
  ldI .i64 ((⟨k5, 0, none⟩ : Addr).add 0) w13 fun n17 =>
  call Try.prog 34 #[.int .i64 n17] w13 fun v18 w14 =>
  ∃ (b19 : Bool) (b20 : Bool) (b21 : Bool) (b22 : Bool) (b23 : Bool) (b24 : Bool),
  v18 = .tuple #[.bool b19, .bool b20, .bool b21, .bool b22, .bool b23, .bool b24] ∧
  ∃ J25 : World → Prop, (
  br b19 (
  call Try.prog 38 #[.int .i64 8, .pointer (some (⟨k4, 0, none⟩ : Addr))] w14 fun v26 w15 =>
  asI .u64 v26 fun n27 =>
  st ((⟨k5, 0, none⟩ : Addr).add 4) (.int .u64 n27) w15 fun w16 =>
  J25  w16) (
  J25  w14)) ∧
  ∀ (u28 : Nat → Value)  (w17 : World), J25  w17 →
  ∃ I29 : Int → World → Nat → Prop, (∃ m30, I29 0 w17 m30) ∧
  ∀ (u31 : Nat → Value) (n32 : Int) (w18 : World) (m33 : Nat), I29 n32 w18 m33 →
  br (decide ((n32 : Int) < 16)) (
  br b20 (
  call Try.prog 38 #[.int .i64 1, .pointer (some (⟨k4, 0, none⟩ : Addr))] w18 fun v34 w19 =>
  asI .u64 v34 fun n35 =>
  arith .u8 n35 fun n36 =>
  idxA ((⟨k5, 0, none⟩ : Addr).add 5) 16 n32 1 fun a37 =>
  st a37 (.int .u8 n36) w19 fun w20 =>
  arith .i64 (n32 + 1) fun n38 =>
  ∃ m39, m39 < m33 ∧ I29 n38 w20 m39) (
  arith .i64 (n32 + 1) fun n40 =>
  ∃ m41, m41 < m33 ∧ I29 n40 w18 m41)) (
  ∃ J42 : World → Prop, (
  br b21 (
  call Try.prog 38 #[.int .i64 1, .pointer (some (⟨k4, 0, none⟩ : Addr))] w18 fun v43 w21 =>
  asI .u64 v43 fun n44 =>
  arith .i64 n44 fun n45 =>
  st ((⟨k5, 0, none⟩ : Addr).add 21) (.int .i64 n45) w21 fun w22 =>
  J42  w22) (
  J42  w18)) ∧
  ∀ (u46 : Nat → Value)  (w23 : World), J42  w23 →
  ∃ J47 : World → Prop, (
  br b22 (
  call Try.prog 38 #[.int .i64 1, .pointer (some (⟨k4, 0, none⟩ : Addr))] w23 fun v48 w24 =>
  asI .u64 v48 fun n49 =>
  arith .i64 n49 fun n50 =>
  st ((⟨k5, 0, none⟩ : Addr).add 23) (.int .i64 n50) w24 fun w25 =>
  J47  w25) (
  J47  w23)) ∧
  ∀ (u51 : Nat → Value)  (w26 : World), J47  w26 →
  ∃ J52 : World → Prop, (
  br b23 (
  call Try.prog 38 #[.int .i64 8, .pointer (some (⟨k4, 0, none⟩ : Addr))] w26 fun v53 w27 =>
  asI .u64 v53 fun n54 =>
  arith .i64 n54 fun n55 =>
  st ((⟨k5, 0, none⟩ : Addr).add 22) (.int .i64 n55) w27 fun w28 =>
  J52  w28) (
  J52  w26)) ∧
  ∀ (u56 : Nat → Value)  (w29 : World), J52  w29 →
  ∃ J57 : World → Prop, (
  ∃ J58 : Bool → World → Prop, (
  br b24 (
  call Try.prog 38 #[.int .i64 8, .pointer (some (⟨k4, 0, none⟩ : Addr))] w29 fun v59 w30 =>
  asI .u64 v59 fun n60 =>
  J58 ((n60 : Int) == 1) w30) (
  J58 false w29)) ∧
  ∀ (u61 : Nat → Value) (b62 : Bool) (w31 : World), J58 b62 w31 →
  br b62 (
  ldP (⟨k4, 0, none⟩ : Addr) w31 fun p63 =>
  call Try.prog 41 #[.pointer p63] w31 fun v64 w32 =>
  asI .i64 v64 fun n65 =>
  arith .i64 ((y0 : Int) - n65) fun n66 =>
  slc x0 z0 1 n66 ((y0 : Int)) fun p67 l67 c67 =>
  call Try.prog 40 #[.slice p67 l67 c67] w32 fun v68 w33 =>
  ∃ (g69 : Array Value) (n70 : Int),
  v68 = .tuple #[.agg g69, .int .i64 n70] ∧
  new #[.int .u32 0, .int .u32 0, .int .u64 0, .int .u64 0, .int .u8 0, .int .u8 0, .int .u8 0, .int .u8 0, .int .u8 0, .int .u8 0, .int .u8 0, .int .u8 0, .int .u8 0, .int .u8 0, .int .u8 0, .int .u8 0, .int .u8 0, .int .u8 0, .int .u8 0, .int .u8 0, .int .u8 0, .int .u8 0, .int .u8 0, .int .u8 0, .int .u8 0, .int .u8 0, .int .u8 0, .int .u8 0, .int .u8 0, .int .u8 0, .int .u8 0, .int .u8 0, .int .u8 0, .int .u8 0, .int .u8 0, .int .u8 0] 77 w33 fun k71 w34 =>
  stA Try.prog (⟨k71, 0, none⟩ : Addr) 36 g69 w34 fun w35 =>
  ldA (⟨k71, 0, none⟩ : Addr) 36 w35 fun g72 =>
  (g72 : Array Value).size = 36 ∧
  new g72 77 w35 fun k73 w36 =>
  st ((⟨k5, 0, none⟩ : Addr).add 24) (.slice (some (⟨k73, 0, none⟩ : Addr)) 1 1) w36 fun w37 =>
  J57  w37) (
  J57  w31)) ∧
  ∀ (u74 : Nat → Value)  (w38 : World), J57  w38 →
  ldA (⟨k5, 0, none⟩ : Addr) 25 w38 fun g75 =>
  call Try.prog 23 #[.agg g75] w38 fun v76 w39 =>
  ∃ (p77 : Option Addr) (l77 c77 : Nat) (n78 : Int),
  v76 = .tuple #[.slice p77 l77 c77, .int .i64 n78] ∧
  br ((n78 : Int) != 0) (
  stA Try.prog (⟨k1, 0, none⟩ : Addr) 25 #[.int .i64 0, .int .i64 0, .int .i64 0, .int .u64 0, .int .u64 0, .int .u8 0, .int .u8 0, .int .u8 0, .int .u8 0, .int .u8 0, .int .u8 0, .int .u8 0, .int .u8 0, .int .u8 0, .int .u8 0, .int .u8 0, .int .u8 0, .int .u8 0, .int .u8 0, .int .u8 0, .int .u8 0, .int .i64 0, .int .i64 0, .int .i64 0, .slice none 0 0] w39 fun w40 =>
  ldA (⟨k1, 0, none⟩ : Addr) 25 w40 fun g79 =>
  R (.tuple #[.agg g79, .int .i64 5]) w40) (
  call Try.prog 42 #[.slice p77 l77 c77, .slice x0 y0 z0] w39 fun v80 w41 =>
  asB v80 fun b81 =>
  br (!b81) (
  stA Try.prog (⟨k1, 0, none⟩ : Addr) 25 #[.int .i64 0, .int .i64 0, .int .i64 0, .int .u64 0, .int .u64 0, .int .u8 0, .int .u8 0, .int .u8 0, .int .u8 0, .int .u8 0, .int .u8 0, .int .u8 0, .int .u8 0, .int .u8 0, .int .u8 0, .int .u8 0, .int .u8 0, .int .u8 0, .int .u8 0, .int .u8 0, .int .u8 0, .int .i64 0, .int .i64 0, .int .i64 0, .slice none 0 0] w41 fun w42 =>
  ldA (⟨k1, 0, none⟩ : Addr) 25 w42 fun g82 =>
  R (.tuple #[.agg g82, .int .i64 5]) w42) (
  ldA (⟨k5, 0, none⟩ : Addr) 25 w41 fun g83 =>
  stA Try.prog (⟨k1, 0, none⟩ : Addr) 25 g83 w41 fun w43 =>
  ldA (⟨k1, 0, none⟩ : Addr) 25 w43 fun g84 =>
  R (.tuple #[.agg g84, .int .i64 0]) w43)))
@[irreducible] def packet_Decode_ann : Ann := .seq .none (.seq .none (.seq .none (.seq .none (.seq .none (.seq .none (.meet [] .none (.seq (.seq .none (.one (.loop [(50, .int .i64)] .none))) (.meet [] .none (.meet [] .none (.meet [] .none (.meet [] (.meet [(81, .bool)] .none .none) .none)))))))))))
theorem packet_Decode_call {x0 : Option Addr} {y0 z0 : Nat} {R : Value → World → Prop} {w : World} (h : packet_Decode x0 y0 z0 R w) : call Try.prog 25 #[.slice x0 y0 z0] w R :=
  call_of_fnW plain mixed Try.func25 packet_Decode_ann (Eq.mp (by kernel_rfl : packet_Decode x0 y0 z0 R w = fnW Try.prog Try.f25 packet_Decode_ann #[.slice x0 y0 z0] R w) h)

def slices_Delete (x0 : Option Addr) (y0 z0 : Nat) (x1 : Int) (x2 : Int) (R : Value → World → Prop) (w : World) : Prop :=
  slc3 x0 z0 1 x1 x2 ((y0 : Int)) fun p1 l1 c1 =>
  br ((x1 : Int) == x2) (
  R (.slice x0 y0 z0) w) (
  slc x0 z0 1 0 x1 fun p2 l2 c2 =>
  slc x0 z0 1 x2 ((y0 : Int)) fun p3 l3 c3 =>
  runsS Try.prog (Builtin.append_ #[61, 61] 61 #[.slice p2 l2 c2, .slice p3 l3 c3]) w.drew fun p4 l4 c4 w1 =>
  slc p4 c4 1 ((l4 : Int)) ((y0 : Int)) fun p5 l5 c5 =>
  clrM Try.prog #[61] 0 p5 l5 c5 w1 fun w2 =>
  R (.slice p4 l4 c4) w2)
@[irreducible] def slices_Delete_ann : Ann := .seq .none (.seq .none (.seq .none (.seq .none (.seq (.draw [[], [], [0, 1], [], [], [3, 4], [0, 1, 2, 3, 4, 5], [0, 1, 2, 3, 4, 5, 6]] (ol [0, 1, 2, 3, 4, 5, 6, 7] .nil)) .none))))
theorem slices_Delete_call {x0 : Option Addr} {y0 z0 : Nat} {x1 : Int} {x2 : Int} {R : Value → World → Prop} {w : World} (h : slices_Delete x0 y0 z0 x1 x2 R w) : call Try.prog 26 #[.slice x0 y0 z0, .int .i64 x1, .int .i64 x2] w R :=
  call_of_fnW plain mixed Try.func26 slices_Delete_ann (Eq.mp (by kernel_rfl : slices_Delete x0 y0 z0 x1 x2 R w = fnW Try.prog Try.f26 slices_Delete_ann #[.slice x0 y0 z0, .int .i64 x1, .int .i64 x2] R w) h)

def tenonref23_Net_Send (x0 : Option Addr) (x1 : Array Value) (R : Value → World → Prop) (w : World) : Prop :=
  new x1 35 w fun k1 w1 =>
  ∃ I2 : Int → Int → World → Nat → Prop, (∃ m3, I2 1 0 w1 m3) ∧
  ∀ (u4 : Nat → Value) (n5 : Int) (n6 : Int) (w2 : World) (m7 : Nat), I2 n5 n6 w2 m7 →
  nn x0 fun a8 =>
  ldS (a8.add 2) w2 fun p9 l9 c9 =>
  br (decide ((n6 : Int) < (l9 : Int))) (
  nn x0 fun a10 =>
  ldS (a10.add 2) w2.drew fun p11 l11 c11 =>
  idx p11 l11 n6 25 fun a12 =>
  ldI .i64 (a12.add 1) w2.drew fun n13 =>
  ldI .i64 ((⟨k1, 0, none⟩ : Addr).add 1) w2.drew fun n14 =>
  br ((n13 : Int) == n14) (
  nn x0 fun a15 =>
  ldS (a15.add 2) w2.drew fun p16 l16 c16 =>
  idx p16 l16 n6 25 fun a17 =>
  ldI .i64 (a17.add 2) w2.drew fun n18 =>
  ldI .i64 ((⟨k1, 0, none⟩ : Addr).add 2) w2.drew fun n19 =>
  br ((n18 : Int) == n19) (
  arith .u64 (n5 + 1) fun n20 =>
  arith .i64 (n6 + 1) fun n21 =>
  ∃ m22, m22 < m7 ∧ I2 n20 n21 w2.drew m22) (
  arith .i64 (n6 + 1) fun n23 =>
  ∃ m24, m24 < m7 ∧ I2 n5 n23 w2.drew m24)) (
  arith .i64 (n6 + 1) fun n25 =>
  ∃ m26, m26 < m7 ∧ I2 n5 n25 w2.drew m26)) (
  st ((⟨k1, 0, none⟩ : Addr).add 3) (.int .u64 n5) w2 fun w3 =>
  ldA (⟨k1, 0, none⟩ : Addr) 25 w3 fun g27 =>
  call Try.prog 43 #[.agg g27] w3 fun v28 w4 =>
  asB v28 fun b29 =>
  br (!b29) (
  R (.tuple #[.int .u64 0, .int .i64 5]) w4) (
  nn x0 fun a30 =>
  ldS (a30.add 1) w4.drew fun p31 l31 c31 =>
  nn x0 fun a32 =>
  ldI .i64 (a32.add 0) w4.drew fun n33 =>
  br (decide ((l31 : Int) ≥ n33)) (
  R (.tuple #[.int .u64 0, .int .i64 3]) w4.drew) (
  nn x0 fun a34 =>
  ldS (a34.add 1) w4.drew.drew fun p35 l35 c35 =>
  ldA (⟨k1, 0, none⟩ : Addr) 25 w4.drew.drew fun g36 =>
  (g36 : Array Value).size = 25 ∧
  new g36 35 w4.drew.drew fun k37 w5 =>
  runsS Try.prog (Builtin.append_ #[29, 29] 29 #[.slice p35 l35 c35, .slice (some (⟨k37, 0, none⟩ : Addr)) 1 1]) w5 fun p38 l38 c38 w6 =>
  nn x0 fun a39 =>
  st (a39.add 1) (.slice p38 l38 c38) w6 fun w7 =>
  nn x0 fun a40 =>
  ldS (a40.add 2) w7.drew fun p41 l41 c41 =>
  ldA (⟨k1, 0, none⟩ : Addr) 25 w7.drew fun g42 =>
  (g42 : Array Value).size = 25 ∧
  new g42 35 w7.drew fun k43 w8 =>
  runsS Try.prog (Builtin.append_ #[29, 29] 29 #[.slice p41 l41 c41, .slice (some (⟨k43, 0, none⟩ : Addr)) 1 1]) w8 fun p44 l44 c44 w9 =>
  nn x0 fun a45 =>
  st (a45.add 2) (.slice p44 l44 c44) w9 fun w10 =>
  R (.tuple #[.int .u64 n5, .int .i64 0]) w10)))
@[irreducible] def tenonref23_Net_Send_ann : Ann := .seq .none (.seq .none (.seq (.seq .none (.one (.loop [(6, .int .u64), (7, .int .i64)] (.seq .none (.seq (.one (.seq (.draw [[], [0], [0, 1], [0, 1, 2], [], [0, 1, 2, 3, 4], [0, 1, 2, 3, 4, 5], [0, 1, 2, 3, 4, 5, 6], [], [8], [0, 1, 2, 3, 4, 5, 6, 7, 8, 9], [0, 1, 2, 3, 4, 5, 6, 7, 8, 9, 10], [0, 1, 2, 3, 4, 5, 6, 7, 8, 9, 10, 11], [0, 1, 2, 3, 4, 5, 6, 7, 8, 9, 10, 11, 12], [0, 1, 2, 3, 4, 5, 6, 7, 8, 9, 10, 11, 12, 13], [0, 1, 2, 3, 4, 5, 6, 7, 8, 9, 10, 11, 12, 13, 14], [0, 1, 2, 3, 4, 5, 6, 7, 8, 9, 10, 11], [0, 1, 2, 3, 4, 5, 6, 7, 8, 9, 10, 11, 12, 13, 14, 15, 16], [0, 1, 2, 3, 4, 5, 6, 7, 8, 9, 10, 11, 12, 13, 14, 15, 16, 17], [0, 1, 2, 3, 4, 5, 6, 7, 8, 9, 10, 11, 12, 13, 14, 15, 16, 17, 18], [0, 1, 2, 3, 4, 5, 6, 7, 8, 9, 10, 11], [0, 1, 2, 3, 4, 5, 6, 7, 8, 9, 10, 11, 20], [0, 1, 2, 3, 4, 5, 6, 7, 8, 9, 10, 11, 12, 13, 14, 15, 16, 17, 18, 19, 20, 21], [0, 1, 2, 3, 4, 5, 6, 7, 8, 9, 10, 11, 12, 13, 14, 15, 16, 17, 18, 19, 20, 21, 22]] (ol [0, 1, 2, 3, 4, 5, 6, 7, 8, 9, 10, 11, 12, 13, 14, 15, 16, 17, 18, 19, 20, 21, 22, 23] .nil)) .none)) .none))))) (.seq .none (.seq .none (.seq (.seq (.draw [[], [0], [0, 1], [0, 1, 2], [0, 1, 2, 3], [], [5], [5, 6], [5, 6, 7], [0, 1, 2, 3, 4, 5, 6, 7, 8]] (ol [0, 1, 2, 3, 4, 5, 6, 7, 8, 9] .nil)) .none) (.seq (.draw [[], [], [1], [1, 2], [1, 2, 3], [], [5], [1, 2, 3, 4, 5, 6], [0, 1, 2, 3, 4, 5, 6, 7], [0, 1, 2, 3, 4, 5, 6, 7, 8], [0, 1, 2, 3, 4, 5, 6, 7, 8, 9]] (ol [0, 1, 2, 3, 4, 5, 6, 7, 8, 9, 10] .nil)) (.seq (.draw [[], [], [1], [1, 2], [1, 2, 3], [], [5], [1, 2, 3, 4, 5, 6], [0, 1, 2, 3, 4, 5, 6, 7], [0, 1, 2, 3, 4, 5, 6, 7, 8], [0, 1, 2, 3, 4, 5, 6, 7, 8, 9]] (ol [0, 1, 2, 3, 4, 5, 6, 7, 8, 9, 10] .nil)) .none)))))))
theorem tenonref23_Net_Send_call {x0 : Option Addr} {x1 : Array Value} {R : Value → World → Prop} {w : World} (h : tenonref23_Net_Send x0 x1 R w) : call Try.prog 27 #[.pointer x0, .agg x1] w R :=
  call_of_fnW plain mixed Try.func27 tenonref23_Net_Send_ann (Eq.mp (by kernel_rfl : tenonref23_Net_Send x0 x1 R w = fnW Try.prog Try.f27 tenonref23_Net_Send_ann #[.pointer x0, .agg x1] R w) h)

def tenonref23_Net_Take (x0 : Option Addr) (x1 : Int) (R : Value → World → Prop) (w : World) : Prop :=
  new #[.int .i64 0, .int .i64 0, .int .i64 0, .int .u64 0, .int .u64 0, .int .u8 0, .int .u8 0, .int .u8 0, .int .u8 0, .int .u8 0, .int .u8 0, .int .u8 0, .int .u8 0, .int .u8 0, .int .u8 0, .int .u8 0, .int .u8 0, .int .u8 0, .int .u8 0, .int .u8 0, .int .u8 0, .int .i64 0, .int .i64 0, .int .i64 0, .slice none 0 0] 35 w fun k1 w1 =>
  nn x0 fun a2 =>
  ldS (a2.add 1) w1 fun p3 l3 c3 =>
  call Try.prog 11 #[.int .i64 x1, .int .i64 ((l3 : Int))] w1 fun v4 w2 =>
  asI .i64 v4 fun n5 =>
  nn x0 fun a6 =>
  ldS (a6.add 1) w2 fun p7 l7 c7 =>
  idx p7 l7 n5 25 fun a8 =>
  ldA a8 25 w2 fun g9 =>
  new #[.int .i64 0, .int .i64 0, .int .i64 0, .int .u64 0, .int .u64 0, .int .u8 0, .int .u8 0, .int .u8 0, .int .u8 0, .int .u8 0, .int .u8 0, .int .u8 0, .int .u8 0, .int .u8 0, .int .u8 0, .int .u8 0, .int .u8 0, .int .u8 0, .int .u8 0, .int .u8 0, .int .u8 0, .int .i64 0, .int .i64 0, .int .i64 0, .slice none 0 0] 35 w2 fun k10 w3 =>
  stA Try.prog (⟨k10, 0, none⟩ : Addr) 25 g9 w3 fun w4 =>
  nn x0 fun a11 =>
  ldS (a11.add 1) w4 fun p12 l12 c12 =>
  slc p12 c12 25 0 n5 fun p13 l13 c13 =>
  runsS Try.prog (Builtin.append_ #[29, 29] 29 #[.slice none 0 0, .slice p13 l13 c13]) w4 fun p14 l14 c14 w5 =>
  nn x0 fun a15 =>
  ldS (a15.add 1) w5 fun p16 l16 c16 =>
  arith .i64 (n5 + 1) fun n17 =>
  slc p16 c16 25 n17 ((l16 : Int)) fun p18 l18 c18 =>
  runsS Try.prog (Builtin.append_ #[29, 29] 29 #[.slice p14 l14 c14, .slice p18 l18 c18]) w5 fun p19 l19 c19 w6 =>
  nn x0 fun a20 =>
  st (a20.add 1) (.slice p19 l19 c19) w6 fun w7 =>
  ldA (⟨k10, 0, none⟩ : Addr) 25 w7 fun g21 =>
  stA Try.prog (⟨k1, 0, none⟩ : Addr) 25 g21 w7 fun w8 =>
  ldA (⟨k1, 0, none⟩ : Addr) 25 w8 fun g22 =>
  R (.agg g22) w8
@[irreducible] def tenonref23_Net_Take_ann : Ann := .none
theorem tenonref23_Net_Take_call {x0 : Option Addr} {x1 : Int} {R : Value → World → Prop} {w : World} (h : tenonref23_Net_Take x0 x1 R w) : call Try.prog 28 #[.pointer x0, .int .i64 x1] w R :=
  call_of_fnW plain mixed Try.func28 tenonref23_Net_Take_ann (Eq.mp (by kernel_rfl : tenonref23_Net_Take x0 x1 R w = fnW Try.prog Try.f28 tenonref23_Net_Take_ann #[.pointer x0, .int .i64 x1] R w) h)

def tenonref23_Net_Fresh (x0 : Option Addr) (x1 : Array Value) (R : Value → World → Prop) (w : World) : Prop :=
  new x1 35 w fun k1 w1 =>
  ∃ I2 : Int → World → Nat → Prop, (∃ m3, I2 0 w1 m3) ∧
  ∀ (u4 : Nat → Value) (n5 : Int) (w2 : World) (m6 : Nat), I2 n5 w2 m6 →
  nn x0 fun a7 =>
  ldS (a7.add 3) w2 fun p8 l8 c8 =>
  br (decide ((n5 : Int) < (l8 : Int))) (
  nn x0 fun a9 =>
  ldS (a9.add 3) w2.drew fun p10 l10 c10 =>
  idx p10 l10 n5 25 fun a11 =>
  ldI .i64 (a11.add 1) w2.drew fun n12 =>
  ldI .i64 ((⟨k1, 0, none⟩ : Addr).add 1) w2.drew fun n13 =>
  br ((n12 : Int) == n13) (
  nn x0 fun a14 =>
  ldS (a14.add 3) w2.drew fun p15 l15 c15 =>
  idx p15 l15 n5 25 fun a16 =>
  ldI .i64 (a16.add 2) w2.drew fun n17 =>
  ldI .i64 ((⟨k1, 0, none⟩ : Addr).add 2) w2.drew fun n18 =>
  br ((n17 : Int) == n18) (
  nn x0 fun a19 =>
  ldS (a19.add 3) w2.drew fun p20 l20 c20 =>
  idx p20 l20 n5 25 fun a21 =>
  ldI .u64 (a21.add 3) w2.drew fun n22 =>
  ldI .u64 ((⟨k1, 0, none⟩ : Addr).add 3) w2.drew fun n23 =>
  br ((n22 : Int) == n23) (
  R (.bool false) w2.drew) (
  arith .i64 (n5 + 1) fun n24 =>
  ∃ m25, m25 < m6 ∧ I2 n24 w2.drew m25)) (
  arith .i64 (n5 + 1) fun n26 =>
  ∃ m27, m27 < m6 ∧ I2 n26 w2.drew m27)) (
  arith .i64 (n5 + 1) fun n28 =>
  ∃ m29, m29 < m6 ∧ I2 n28 w2.drew m29)) (
  nn x0 fun a30 =>
  ldS (a30.add 3) w2.drew fun p31 l31 c31 =>
  ldA (⟨k1, 0, none⟩ : Addr) 25 w2.drew fun g32 =>
  (g32 : Array Value).size = 25 ∧
  new g32 35 w2.drew fun k33 w3 =>
  runsS Try.prog (Builtin.append_ #[29, 29] 29 #[.slice p31 l31 c31, .slice (some (⟨k33, 0, none⟩ : Addr)) 1 1]) w3 fun p34 l34 c34 w4 =>
  nn x0 fun a35 =>
  st (a35.add 3) (.slice p34 l34 c34) w4 fun w5 =>
  R (.bool true) w5)
@[irreducible] def tenonref23_Net_Fresh_ann : Ann := .seq .none (.seq (.seq .none (.one (.loop [(5, .int .i64)] (.seq .none (.seq (.one (.seq (.draw [[], [0], [0, 1], [0, 1, 2], [], [0, 1, 2, 3, 4], [0, 1, 2, 3, 4, 5], [0, 1, 2, 3, 4, 5, 6], [], [8], [0, 1, 2, 3, 4, 5, 6, 7, 8, 9], [0, 1, 2, 3, 4, 5, 6, 7, 8, 9, 10], [0, 1, 2, 3, 4, 5, 6, 7, 8, 9, 10, 11], [0, 1, 2, 3, 4, 5, 6, 7, 8, 9, 10, 11, 12], [0, 1, 2, 3, 4, 5, 6, 7, 8, 9, 10, 11, 12, 13], [0, 1, 2, 3, 4, 5, 6, 7, 8, 9, 10, 11, 12, 13, 14], [0, 1, 2, 3, 4, 5, 6, 7, 8, 9, 10, 11], [0, 1, 2, 3, 4, 5, 6, 7, 8, 9, 10, 11, 12, 13, 14, 15, 16], [0, 1, 2, 3, 4, 5, 6, 7, 8, 9, 10, 11, 12, 13, 14, 15, 16, 17], [0, 1, 2, 3, 4, 5, 6, 7, 8, 9, 10, 11, 12, 13, 14, 15, 16, 17, 18], [0, 1, 2, 3, 4, 5, 6, 7, 8, 9, 10, 11], [0, 1, 2, 3, 4, 5, 6, 7, 8, 9, 10, 11, 20], [0, 1, 2, 3, 4, 5, 6, 7, 8, 9, 10, 11, 12, 13, 14, 15, 16, 17, 18, 19, 20, 21], [0, 1, 2, 3, 4, 5, 6, 7, 8, 9, 10, 11, 12, 13, 14, 15, 16, 17, 18, 19, 20, 21, 22], [0, 1, 2, 3, 4, 5, 6, 7, 8, 9, 10, 11, 12, 13, 14, 15, 16, 17, 18, 19, 20, 21, 22, 23], [0, 1, 2, 3, 4, 5, 6, 7, 8, 9, 10, 11, 12, 13, 14, 15, 16, 17, 18, 19, 20, 21, 22, 23, 24], [0, 1, 2, 3, 4, 5, 6, 7, 8, 9, 10, 11, 12, 13, 14, 15, 16, 17, 18, 19, 20, 21, 22, 23, 24, 25], [0, 1, 2, 3, 4, 5, 6, 7, 8, 9, 10, 11, 12, 13, 14, 15, 16, 17, 18, 19, 20, 21, 22, 23, 24, 25, 26], [0, 1, 2, 3, 4, 5, 6, 7, 8, 9, 10, 11, 12, 13, 14, 15, 16, 17, 18, 19, 20, 21, 22, 23, 24, 25, 26, 27], [0, 1, 2, 3, 4, 5, 6, 7, 8, 9, 10, 11, 12, 13, 14, 15, 16, 17, 18, 19, 20, 21, 22, 23, 24], [0, 1, 2, 3, 4, 5, 6, 7, 8, 9, 10, 11, 12, 13, 14, 15, 16, 17, 18, 19, 20, 21, 22, 23, 24, 25, 26, 27, 28, 29], [0, 1, 2, 3, 4, 5, 6, 7, 8, 9, 10, 11, 12, 13, 14, 15, 16, 17, 18, 19, 20, 21, 22, 23, 24, 25, 26, 27, 28, 29, 30], [0, 1, 2, 3, 4, 5, 6, 7, 8, 9, 10, 11, 12, 13, 14, 15, 16, 17, 18, 19, 20, 21, 22, 23, 24, 25, 26, 27, 28, 29, 30, 31], [0, 1, 2, 3, 4, 5, 6, 7, 8, 9, 10, 11, 12, 13, 14, 15, 16, 17, 18, 19, 20, 21, 22, 23, 24], [0, 1, 2, 3, 4, 5, 6, 7, 8, 9, 10, 11, 12, 13, 14, 15, 16, 17, 18, 19, 20, 21, 22, 23, 24, 33], [0, 1, 2, 3, 4, 5, 6, 7, 8, 9, 10, 11, 12, 13, 14, 15, 16, 17, 18, 19, 20, 21, 22, 23, 24, 25, 26, 27, 28, 29, 30, 31, 32, 33, 34], [0, 1, 2, 3, 4, 5, 6, 7, 8, 9, 10, 11, 12, 13, 14, 15, 16, 17, 18, 19, 20, 21, 22, 23, 24, 25, 26, 27, 28, 29, 30, 31, 32, 33, 34, 35]] (ol [0, 1, 2, 3, 4, 5, 6, 7, 8, 9, 10, 11, 12, 13, 14, 15, 16, 17, 18, 19, 20, 21, 22, 23, 24, 25, 26, 27, 28, 29, 30, 31, 32, 33, 34, 35, 36] .nil)) .none)) .none))))) (.seq (.draw [[], [], [1], [1, 2], [1, 2, 3], [], [5], [1, 2, 3, 4, 5, 6], [0, 1, 2, 3, 4, 5, 6, 7], [0, 1, 2, 3, 4, 5, 6, 7, 8], [0, 1, 2, 3, 4, 5, 6, 7, 8, 9]] (ol [0, 1, 2, 3, 4, 5, 6, 7, 8, 9, 10] .nil)) .none))
theorem tenonref23_Net_Fresh_call {x0 : Option Addr} {x1 : Array Value} {R : Value → World → Prop} {w : World} (h : tenonref23_Net_Fresh x0 x1 R w) : call Try.prog 29 #[.pointer x0, .agg x1] w R :=
  call_of_fnW plain mixed Try.func29 tenonref23_Net_Fresh_ann (Eq.mp (by kernel_rfl : tenonref23_Net_Fresh x0 x1 R w = fnW Try.prog Try.f29 tenonref23_Net_Fresh_ann #[.pointer x0, .agg x1] R w) h)

def net_Net_All (x0 : Option Addr) (R : Value → World → Prop) (w : World) : Prop :=
  new #[.pointer x0] 25 w fun k1 w1 =>
  R (.func (.func 44) #[] #[.pointer (some (⟨k1, 0, none⟩ : Addr))]) w1
@[irreducible] def net_Net_All_ann : Ann := .none
theorem net_Net_All_call {x0 : Option Addr} {R : Value → World → Prop} {w : World} (h : net_Net_All x0 R w) : call Try.prog 30 #[.pointer x0] w R :=
  call_of_fnW plain mixed Try.func30 net_Net_All_ann (Eq.mp (by kernel_rfl : net_Net_All x0 R w = fnW Try.prog Try.f30 net_Net_All_ann #[.pointer x0] R w) h)

def packet_Check (x0 : Array Value) (R : Value → World → Prop) (w : World) : Prop :=
  new x0 35 w fun k1 w1 =>
  ldI .i64 ((⟨k1, 0, none⟩ : Addr).add 1) w1 fun n2 =>
  call Try.prog 46 #[.int .i64 n2] w1 fun v3 w2 =>
  asB v3 fun b4 =>
  br (!b4) (
  R (.int .i64 5) w2) (
  ldI .i64 ((⟨k1, 0, none⟩ : Addr).add 2) w2 fun n5 =>
  call Try.prog 46 #[.int .i64 n5] w2 fun v6 w3 =>
  asB v6 fun b7 =>
  br (!b7) (
  R (.int .i64 5) w3) (
  ldI .i64 ((⟨k1, 0, none⟩ : Addr).add 1) w3 fun n8 =>
  ldI .i64 ((⟨k1, 0, none⟩ : Addr).add 2) w3 fun n9 =>
  br ((n8 : Int) == n9) (
  R (.int .i64 5) w3) (
  ldA (⟨k1, 0, none⟩ : Addr) 25 w3 fun g10 =>
  call Try.prog 47 #[.agg g10] w3 fun v11 w4 =>
  asB v11 fun b12 =>
  br (!b12) (
  R (.int .i64 5) w4) (
  R (.int .i64 0) w4))))
@[irreducible] def packet_Check_ann : Ann := .none
theorem packet_Check_call {x0 : Array Value} {R : Value → World → Prop} {w : World} (h : packet_Check x0 R w) : call Try.prog 31 #[.agg x0] w R :=
  call_of_fnW plain mixed Try.func31 packet_Check_ann (Eq.mp (by kernel_rfl : packet_Check x0 R w = fnW Try.prog Try.f31 packet_Check_ann #[.agg x0] R w) h)

def wire_NewWriter  (R : Value → World → Prop) (w : World) : Prop :=
  new #[.slice none 0 0] 106 w fun k1 w1 =>
  R (.pointer (some (⟨k1, 0, none⟩ : Addr))) w1
@[irreducible] def wire_NewWriter_ann : Ann := .none
theorem wire_NewWriter_call  {R : Value → World → Prop} {w : World} (h : wire_NewWriter  R w) : call Try.prog 32 #[] w R :=
  call_of_fnW plain mixed Try.func32 wire_NewWriter_ann (Eq.mp (by kernel_rfl : wire_NewWriter  R w = fnW Try.prog Try.f32 wire_NewWriter_ann #[] R w) h)

def wire_Writer_Num (x0 : Option Addr) (x1 : Int) (x2 : Int) (R : Value → World → Prop) (w : World) : Prop :=
  ∃ J1 : World → Prop, (
  br x0.isNone (
  R (.int .i64 1) w) (
  call Try.prog 48 #[.int .i64 x2] w fun v2 w1 =>
  asB v2 fun b3 =>
  br (!b3) (
  R (.int .i64 1) w1) (
  br (decide ((x2 : Int) < 8)) (
  arith .i64 (8 * x2) fun n4 =>
  shr .u64 x1 n4 fun n5 =>
  br ((n5 : Int) != 0) (
  R (.int .i64 1) w1) (
  J1  w1)) (
  J1  w1)))) ∧
  ∀ (u6 : Nat → Value)  (w2 : World), J1  w2 →
  nn x0 fun a7 =>
  ldS (a7.add 0) w2.drew fun p8 l8 c8 =>
  nn x0 fun a9 =>
  ldS (a9.add 0) w2.drew fun p10 l10 c10 =>
  call Try.prog 49 #[.int .i64 ((l10 : Int)), .int .i64 x2] w2.drew fun v11 w3 =>
  asI .i64 v11 fun n12 =>
  w3.cell? (a7.add 0) = some (.slice p8 l8 c8) ∧
  runsS Try.prog (Builtin.append_ #[66, 3] 66 #[.slice p8 l8 c8, .int .i64 n12]) w3 fun p13 l13 c13 w4 =>
  nn x0 fun a14 =>
  st (a14.add 0) (.slice p13 l13 c13) w4 fun w5 =>
  ∃ I15 : Int → World → Nat → Prop, (∃ m16, I15 0 w5 m16) ∧
  ∀ (u17 : Nat → Value) (n18 : Int) (w6 : World) (m19 : Nat), I15 n18 w6 m19 →
  br (decide ((n18 : Int) < x2)) (
  nn x0 fun a20 =>
  ldS (a20.add 0) w6.drew fun p21 l21 c21 =>
  arith .i64 (8 * n18) fun n22 =>
  shr .u64 x1 n22 fun n23 =>
  arith .u8 n23 fun n24 =>
  new #[.int .u8 n24] 5 w6.drew fun k25 w7 =>
  runsS Try.prog (Builtin.append_ #[66, 66] 66 #[.slice p21 l21 c21, .slice (some (⟨k25, 0, none⟩ : Addr)) 1 1]) w7 fun p26 l26 c26 w8 =>
  nn x0 fun a27 =>
  st (a27.add 0) (.slice p26 l26 c26) w8 fun w9 =>
  arith .i64 (n18 + 1) fun n28 =>
  ∃ m29, m29 < m19 ∧ I15 n28 w9 m29) (
  R (.int .i64 0) w6)
@[irreducible] def wire_Writer_Num_ann : Ann := .seq .none (.meet [] .none (.seq (.draw [[], [], [1], [1, 2], [1, 2, 3], [], [5], [5, 6], [5, 6, 7], [5, 6, 7, 8], [], [5, 6, 7, 8, 9, 10], [1, 2, 3, 4, 5, 6, 7, 8, 9, 10, 11], [0, 1, 2, 3, 4, 5, 6, 7, 8, 9, 10, 11, 12], [0, 1, 2, 3, 4, 5, 6, 7, 8, 9, 10, 11, 12, 13], [0, 1, 2, 3, 4, 5, 6, 7, 8, 9, 10, 11, 12, 13, 14]] (ol [0, 1, 2, 3, 4, 5, 6, 7, 8, 9, 10, 11, 12, 13, 14, 15] .nil)) (.seq (.seq .none (.one (.loop [(42, .int .i64)] (.seq .none (.seq .none (.seq (.one (.seq .none (.draw [[], [], [1], [1, 2], [1, 2, 3], [], [], [6], [5, 6, 7], [5, 6, 7, 8], [5, 6, 7, 8, 9], [1, 2, 3, 4, 5, 6, 7, 8, 9, 10], [0, 1, 2, 3, 4, 5, 6, 7, 8, 9, 10, 11], [0, 1, 2, 3, 4, 5, 6, 7, 8, 9, 10, 11, 12], [0, 1, 2, 3, 4, 5, 6, 7, 8, 9, 10, 11, 12, 13]] (ol [0, 1, 2, 3, 4, 5, 6, 7, 8, 9, 10, 11, 12, 13, 14] .nil)))) .none)))))) .none)))
theorem wire_Writer_Num_call {x0 : Option Addr} {x1 : Int} {x2 : Int} {R : Value → World → Prop} {w : World} (h : wire_Writer_Num x0 x1 x2 R w) : call Try.prog 33 #[.pointer x0, .int .u64 x1, .int .i64 x2] w R :=
  call_of_fnW plain mixed Try.func33 wire_Writer_Num_ann (Eq.mp (by kernel_rfl : wire_Writer_Num x0 x1 x2 R w = fnW Try.prog Try.f33 wire_Writer_Num_ann #[.pointer x0, .int .u64 x1, .int .i64 x2] R w) h)

def packet_row (x0 : Int) (R : Value → World → Prop) (w : World) : Prop :=
  br ((x0 : Int) == 1) (
  R (.tuple #[.bool true, .bool true, .bool true, .bool false, .bool true, .bool true]) w) (
  br ((x0 : Int) == 2) (
  R (.tuple #[.bool true, .bool false, .bool false, .bool true, .bool true, .bool false]) w) (
  br ((x0 : Int) == 3) (
  br ((x0 : Int) == 3) (
  R (.tuple #[.bool false, .bool true, .bool false, .bool false, .bool true, .bool false]) w) (
  R (.tuple #[.bool false, .bool false, .bool false, .bool false, .bool false, .bool false]) w)) (
  br ((x0 : Int) == 4) (
  R (.tuple #[.bool false, .bool true, .bool false, .bool false, .bool true, .bool false]) w) (
  R (.tuple #[.bool false, .bool false, .bool false, .bool false, .bool false, .bool false]) w))))
@[irreducible] def packet_row_ann : Ann := .none
theorem packet_row_call {x0 : Int} {R : Value → World → Prop} {w : World} (h : packet_row x0 R w) : call Try.prog 34 #[.int .i64 x0] w R :=
  call_of_fnW plain mixed Try.func34 packet_row_ann (Eq.mp (by kernel_rfl : packet_row x0 R w = fnW Try.prog Try.f34 packet_row_ann #[.int .i64 x0] R w) h)

def wire_Writer_Bytes (x0 : Option Addr) (R : Value → World → Prop) (w : World) : Prop :=
  br x0.isNone (
  R (.slice none 0 0) w) (
  nn x0 fun a1 =>
  ldS (a1.add 0) w fun p2 l2 c2 =>
  call Try.prog 50 #[.slice p2 l2 c2] w fun v3 w1 =>
  asS v3 fun p4 l4 c4 =>
  R (.slice p4 l4 c4) w1)
@[irreducible] def wire_Writer_Bytes_ann : Ann := .none
theorem wire_Writer_Bytes_call {x0 : Option Addr} {R : Value → World → Prop} {w : World} (h : wire_Writer_Bytes x0 R w) : call Try.prog 35 #[.pointer x0] w R :=
  call_of_fnW plain mixed Try.func35 wire_Writer_Bytes_ann (Eq.mp (by kernel_rfl : wire_Writer_Bytes x0 R w = fnW Try.prog Try.f35 wire_Writer_Bytes_ann #[.pointer x0] R w) h)

def objref_Encode (x0 : Array Value) (R : Value → World → Prop) (w : World) : Prop :=
  new x0 77 w fun k1 w1 =>
  ldA (⟨k1, 0, none⟩ : Addr) 36 w1 fun g2 =>
  call Try.prog 51 #[.agg g2] w1 fun v3 w2 =>
  asI .i64 v3 fun n4 =>
  br ((n4 : Int) != 0) (
  R (.tuple #[.slice none 0 0, .int .i64 n4]) w2) (
  call Try.prog 32 #[] w2 fun v5 w3 =>
  asP v5 fun p6 =>
  ldI .u32 ((⟨k1, 0, none⟩ : Addr).add 0) w3 fun n7 =>
  ldI .u32 ((⟨k1, 0, none⟩ : Addr).add 1) w3 fun n8 =>
  ∃ I9 : Int → World → Nat → Prop, (∃ m10, I9 0 w3 m10) ∧
  ∀ (u11 : Nat → Value) (n12 : Int) (w4 : World) (m13 : Nat), I9 n12 w4 m13 →
  br (decide ((n12 : Int) < 4)) (
  (0 ≤ n12 ∧ n12 < (4 : Int)) ∧
  fldI .u32 #[.int .u32 1464812877, .int .u32 n7, .int .u32 n8, .int .u32 0] (Int.toNat n12 * 1) fun n14 =>
  arith .u64 n14 fun n15 =>
  call Try.prog 33 #[.pointer p6, .int .u64 n15, .int .i64 4] w4 fun v16 w5 =>
  asI .i64 v16 fun n17 =>
  arith .i64 (n12 + 1) fun n18 =>
  ∃ m19, m19 < m13 ∧ I9 n18 w5 m19) (
  ldI .u64 ((⟨k1, 0, none⟩ : Addr).add 2) w4 fun n20 =>
  call Try.prog 33 #[.pointer p6, .int .u64 n20, .int .i64 8] w4 fun v21 w6 =>
  asI .i64 v21 fun n22 =>
  ldI .u64 ((⟨k1, 0, none⟩ : Addr).add 3) w6 fun n23 =>
  call Try.prog 33 #[.pointer p6, .int .u64 n23, .int .i64 8] w6 fun v24 w7 =>
  asI .i64 v24 fun n25 =>
  ldA ((⟨k1, 0, none⟩ : Addr).add 4) 16 w7 fun g26 =>
  ldA ((⟨k1, 0, none⟩ : Addr).add 20) 16 w7 fun g27 =>
  (g26 : Array Value).size = 16 ∧
  (g27 : Array Value).size = 16 ∧
  ∃ I28 : Int → World → Nat → Prop, (∃ m29, I28 0 w7 m29) ∧
  ∀ (u30 : Nat → Value) (n31 : Int) (w8 : World) (m32 : Nat), I28 n31 w8 m32 →
  br (decide ((n31 : Int) < 2)) (
  (0 ≤ n31 ∧ n31 < (2 : Int)) ∧
  new #[.int .u8 0, .int .u8 0, .int .u8 0, .int .u8 0, .int .u8 0, .int .u8 0, .int .u8 0, .int .u8 0, .int .u8 0, .int .u8 0, .int .u8 0, .int .u8 0, .int .u8 0, .int .u8 0, .int .u8 0, .int .u8 0] 32 w8 fun k33 w9 =>
  stA Try.prog (⟨k33, 0, none⟩ : Addr) 16 (((#[] ++ g26) ++ g27).extract (Int.toNat n31 * 16) ((Int.toNat n31 * 16) + 16)) w9 fun w10 =>
  ldA (⟨k33, 0, none⟩ : Addr) 16 w10 fun g34 =>
  ∃ I35 : Int → World → Nat → Prop, (∃ m36, I35 0 w10 m36) ∧
  ∀ (u37 : Nat → Value) (n38 : Int) (w11 : World) (m39 : Nat), I35 n38 w11 m39 →
  br (decide ((n38 : Int) < 16)) (
  (0 ≤ n38 ∧ n38 < (16 : Int)) ∧
  fldI .u8 g34 (Int.toNat n38 * 1) fun n40 =>
  arith .u64 n40 fun n41 =>
  call Try.prog 33 #[.pointer p6, .int .u64 n41, .int .i64 1] w11 fun v42 w12 =>
  asI .i64 v42 fun n43 =>
  arith .i64 (n38 + 1) fun n44 =>
  ∃ m45, m45 < m39 ∧ I35 n44 w12 m45) (
  arith .i64 (n31 + 1) fun n46 =>
  ∃ m47, m47 < m32 ∧ I28 n46 w11 m47)) (
  call Try.prog 35 #[.pointer p6] w8 fun v48 w13 =>
  asS v48 fun p49 l49 c49 =>
  R (.tuple #[.slice p49 l49 c49, .int .i64 0]) w13)))
@[irreducible] def objref_Encode_ann : Ann := .seq .none (.seq .none (.seq .none (.seq (.seq .none (.one (.loop [(23, .int .i64)] .none))) (.seq .none (.seq .none (.seq (.seq .none (.one (.loop [(44, .int .i64)] (.seq .none (.seq .none (.seq (.one (.seq .none (.seq .none (.one (.loop [(48, .int .i64)] .none))))) .none)))))) .none))))))
theorem objref_Encode_call {x0 : Array Value} {R : Value → World → Prop} {w : World} (h : objref_Encode x0 R w) : call Try.prog 36 #[.agg x0] w R :=
  call_of_fnW plain mixed Try.func36 objref_Encode_ann (Eq.mp (by kernel_rfl : objref_Encode x0 R w = fnW Try.prog Try.f36 objref_Encode_ann #[.agg x0] R w) h)

def wire_NewReader (x0 : Option Addr) (y0 z0 : Nat) (R : Value → World → Prop) (w : World) : Prop :=
  call Try.prog 50 #[.slice x0 y0 z0] w fun v1 w1 =>
  asS v1 fun p2 l2 c2 =>
  new #[.slice p2 l2 c2, .int .i64 0] 112 w1 fun k3 w2 =>
  R (.pointer (some (⟨k3, 0, none⟩ : Addr))) w2
@[irreducible] def wire_NewReader_ann : Ann := .none
theorem wire_NewReader_call {x0 : Option Addr} {y0 z0 : Nat} {R : Value → World → Prop} {w : World} (h : wire_NewReader x0 y0 z0 R w) : call Try.prog 37 #[.slice x0 y0 z0] w R :=
  call_of_fnW plain mixed Try.func37 wire_NewReader_ann (Eq.mp (by kernel_rfl : wire_NewReader x0 y0 z0 R w = fnW Try.prog Try.f37 wire_NewReader_ann #[.slice x0 y0 z0] R w) h)

def packet_Decode_1 (x0 : Int) (x1 : Addr) (R : Value → World → Prop) (w : World) : Prop :=
  ldP x1 w fun p1 =>
  call Try.prog 39 #[.pointer p1, .int .i64 x0] w fun v2 w1 =>
  ∃ (n3 : Int) (n4 : Int),
  v2 = .tuple #[.int .u64 n3, .int .i64 n4] ∧
  R (.int .u64 n3) w1
@[irreducible] def packet_Decode_1_ann : Ann := .none
theorem packet_Decode_1_call {x0 : Int} {x1 : Addr} {R : Value → World → Prop} {w : World} (h : packet_Decode_1 x0 x1 R w) : call Try.prog 38 #[.int .i64 x0, .pointer (some x1)] w R :=
  call_of_fnW plain mixed Try.func38 packet_Decode_1_ann (Eq.mp (by kernel_rfl : packet_Decode_1 x0 x1 R w = fnW Try.prog Try.f38 packet_Decode_1_ann #[.int .i64 x0, .pointer (some x1)] R w) h)

def wire_Reader_Num (x0 : Option Addr) (x1 : Int) (R : Value → World → Prop) (w : World) : Prop :=
  call Try.prog 48 #[.int .i64 x1] w fun v1 w1 =>
  asB v1 fun b2 =>
  br (!b2) (
  R (.tuple #[.int .u64 0, .int .i64 1]) w1) (
  br x0.isNone (
  R (.tuple #[.int .u64 0, .int .i64 6]) w1) (
  nn x0 fun a3 =>
  ldI .i64 (a3.add 1) w1 fun n4 =>
  call Try.prog 49 #[.int .i64 n4, .int .i64 x1] w1 fun v5 w2 =>
  asI .i64 v5 fun n6 =>
  nn x0 fun a7 =>
  ldS (a7.add 0) w2.drew fun p8 l8 c8 =>
  nn x0 fun a9 =>
  ldI .i64 (a9.add 1) w2.drew fun n10 =>
  arith .i64 ((l8 : Int) - n10) fun n11 =>
  arith .i64 (n6 + x1) fun n12 =>
  br (decide ((n11 : Int) < n12)) (
  R (.tuple #[.int .u64 0, .int .i64 6]) w2.drew) (
  nn x0 fun a13 =>
  ldS (a13.add 0) w2.drew.drew fun p14 l14 c14 =>
  nn x0 fun a15 =>
  ldI .i64 (a15.add 1) w2.drew.drew fun n16 =>
  nn x0 fun a17 =>
  ldI .i64 (a17.add 1) w2.drew.drew fun n18 =>
  arith .i64 (n18 + n6) fun n19 =>
  slc p14 c14 1 n16 n19 fun p20 l20 c20 =>
  ∃ I21 : Int → World → Nat → Prop, (∃ m22, I21 0 w2.drew.drew m22) ∧
  ∀ (u23 : Nat → Value) (n24 : Int) (w3 : World) (m25 : Nat), I21 n24 w3 m25 →
  br (decide ((n24 : Int) < (l20 : Int))) (
  idx p20 l20 n24 1 fun a26 =>
  ldI .u8 a26 w3 fun n27 =>
  br ((n27 : Int) != 0) (
  R (.tuple #[.int .u64 0, .int .i64 5]) w3) (
  arith .i64 (n24 + 1) fun n28 =>
  ∃ m29, m29 < m25 ∧ I21 n28 w3 m29)) (
  ∃ I30 : Int → Int → World → Nat → Prop, (∃ m31, I30 0 0 w3 m31) ∧
  ∀ (u32 : Nat → Value) (n33 : Int) (n34 : Int) (w4 : World) (m35 : Nat), I30 n33 n34 w4 m35 →
  br (decide ((n34 : Int) < x1)) (
  nn x0 fun a36 =>
  ldS (a36.add 0) w4.drew fun p37 l37 c37 =>
  nn x0 fun a38 =>
  ldI .i64 (a38.add 1) w4.drew fun n39 =>
  arith .i64 (n39 + n6) fun n40 =>
  arith .i64 (n40 + n34) fun n41 =>
  idx p37 l37 n41 1 fun a42 =>
  ldI .u8 a42 w4.drew fun n43 =>
  arith .u64 n43 fun n44 =>
  arith .i64 (8 * n34) fun n45 =>
  shl .u64 n44 n45 fun n46 =>
  arith .i64 (n34 + 1) fun n47 =>
  ∃ m48, m48 < m35 ∧ I30 (bitw .or .u64 n33 n46) n47 w4.drew m48) (
  nn x0 fun a49 =>
  ldI .i64 (a49.add 1) w4 fun n50 =>
  arith .i64 (n6 + x1) fun n51 =>
  arith .i64 (n50 + n51) fun n52 =>
  nn x0 fun a53 =>
  st (a53.add 1) (.int .i64 n52) w4 fun w5 =>
  R (.tuple #[.int .u64 n33, .int .i64 0]) w5)))))
@[irreducible] def wire_Reader_Num_ann : Ann := .seq .none (.seq .none (.seq .none (.seq .none (.seq (.seq (.draw [[], [0], [0, 1], [0, 1, 2], [0, 1, 2, 3], [], [5], [5, 6], [5, 6, 7], [0, 1, 2, 3, 4, 5, 6, 7, 8], [], [], [10, 11], [0, 1, 2, 3, 4, 5, 6, 7, 8, 9, 10, 11, 12]] (ol [0, 1, 2, 3, 4, 5, 6, 7, 8, 9, 10, 11, 12, 13] .nil)) .none) (.seq (.seq (.draw [[], [0], [0, 1], [0, 1, 2], [], [4], [4, 5], [4, 5, 6], [], [8], [8, 9], [8, 9, 10], [], [8, 9, 10, 11, 12], [0, 1, 2, 3, 4, 5, 6, 7, 8, 9, 10, 11, 12, 13], [0, 1, 2, 3, 4, 5, 6, 7, 8, 9, 10, 11, 12, 13, 14], []] (ol [0, 1, 2, 3, 4, 5, 6, 7, 8, 9, 10, 11, 12, 13, 14, 15, 16] .nil)) (.one (.loop [(52, .int .i64)] .none))) (.seq .none (.seq (.seq .none (.one (.loop [(9, .int .u64), (60, .int .i64)] (.seq .none (.seq .none (.seq (.one (.seq .none (.draw [[], [], [1], [1, 2], [1, 2, 3], [], [5], [5, 6], [5, 6, 7], [], [5, 6, 7, 8, 9], [], [5, 6, 7, 8, 9, 10, 11], [1, 2, 3, 4, 5, 6, 7, 8, 9, 10, 11, 12], [1, 2, 3, 4, 5, 6, 7, 8, 9, 10, 11, 12, 13], [1, 2, 3, 4, 5, 6, 7, 8, 9, 10, 11, 12, 13, 14], [], [16], [1, 2, 3, 4, 5, 6, 7, 8, 9, 10, 11, 12, 13, 14, 15, 16, 17], [0, 1, 2, 3, 4, 5, 6, 7, 8, 9, 10, 11, 12, 13, 14, 15, 16, 17, 18], [0, 1, 2, 3, 4, 5, 6, 7, 8, 9, 10, 11, 12, 13, 14, 15, 16, 17, 18, 19]] (ol [0, 1, 2, 3, 4, 5, 6, 7, 8, 9, 10, 11, 12, 13, 14, 15, 16, 17, 18, 19, 20] .nil)))) .none)))))) .none)))))))
theorem wire_Reader_Num_call {x0 : Option Addr} {x1 : Int} {R : Value → World → Prop} {w : World} (h : wire_Reader_Num x0 x1 R w) : call Try.prog 39 #[.pointer x0, .int .i64 x1] w R :=
  call_of_fnW plain mixed Try.func39 wire_Reader_Num_ann (Eq.mp (by kernel_rfl : wire_Reader_Num x0 x1 R w = fnW Try.prog Try.f39 wire_Reader_Num_ann #[.pointer x0, .int .i64 x1] R w) h)

def objref_Decode (x0 : Option Addr) (y0 z0 : Nat) (R : Value → World → Prop) (w : World) : Prop :=
  new #[.int .u32 0, .int .u32 0, .int .u64 0, .int .u64 0, .int .u8 0, .int .u8 0, .int .u8 0, .int .u8 0, .int .u8 0, .int .u8 0, .int .u8 0, .int .u8 0, .int .u8 0, .int .u8 0, .int .u8 0, .int .u8 0, .int .u8 0, .int .u8 0, .int .u8 0, .int .u8 0, .int .u8 0, .int .u8 0, .int .u8 0, .int .u8 0, .int .u8 0, .int .u8 0, .int .u8 0, .int .u8 0, .int .u8 0, .int .u8 0, .int .u8 0, .int .u8 0, .int .u8 0, .int .u8 0, .int .u8 0, .int .u8 0] 77 w fun k1 w1 =>
  br (decide ((y0 : Int) < 64)) (
  stA Try.prog (⟨k1, 0, none⟩ : Addr) 36 #[.int .u32 0, .int .u32 0, .int .u64 0, .int .u64 0, .int .u8 0, .int .u8 0, .int .u8 0, .int .u8 0, .int .u8 0, .int .u8 0, .int .u8 0, .int .u8 0, .int .u8 0, .int .u8 0, .int .u8 0, .int .u8 0, .int .u8 0, .int .u8 0, .int .u8 0, .int .u8 0, .int .u8 0, .int .u8 0, .int .u8 0, .int .u8 0, .int .u8 0, .int .u8 0, .int .u8 0, .int .u8 0, .int .u8 0, .int .u8 0, .int .u8 0, .int .u8 0, .int .u8 0, .int .u8 0, .int .u8 0, .int .u8 0] w1 fun w2 =>
  ldA (⟨k1, 0, none⟩ : Addr) 36 w2 fun g2 =>
  R (.tuple #[.agg g2, .int .i64 6]) w2) (
  call Try.prog 37 #[.slice x0 y0 z0] w1 fun v3 w3 =>
  asP v3 fun p4 =>
  new #[.int .u64 0, .int .u64 0, .int .u64 0, .int .u64 0] 113 w3 fun k5 w4 =>
  ∃ I6 : Int → World → Nat → Prop, (∃ m7, I6 0 w4 m7) ∧
  ∀ (u8 : Nat → Value) (n9 : Int) (w5 : World) (m10 : Nat), I6 n9 w5 m10 →
  br (decide ((n9 : Int) < 4)) (
  call Try.prog 39 #[.pointer p4, .int .i64 4] w5 fun v11 w6 =>
  ∃ (n12 : Int) (n13 : Int),
  v11 = .tuple #[.int .u64 n12, .int .i64 n13] ∧
  idxA (⟨k5, 0, none⟩ : Addr) 4 n9 1 fun a14 =>
  st a14 (.int .u64 n12) w6 fun w7 =>
  arith .i64 (n9 + 1) fun n15 =>
  ∃ m16, m16 < m10 ∧ I6 n15 w7 m16) (
  idxA (⟨k5, 0, none⟩ : Addr) 4 1 1 fun a17 =>
  ldI .u64 a17 w5 fun n18 =>
  arith .u32 n18 fun n19 =>
  idxA (⟨k5, 0, none⟩ : Addr) 4 2 1 fun a20 =>
  ldI .u64 a20 w5 fun n21 =>
  arith .u32 n21 fun n22 =>
  new #[.int .u32 0, .int .u32 0, .int .u64 0, .int .u64 0, .int .u8 0, .int .u8 0, .int .u8 0, .int .u8 0, .int .u8 0, .int .u8 0, .int .u8 0, .int .u8 0, .int .u8 0, .int .u8 0, .int .u8 0, .int .u8 0, .int .u8 0, .int .u8 0, .int .u8 0, .int .u8 0, .int .u8 0, .int .u8 0, .int .u8 0, .int .u8 0, .int .u8 0, .int .u8 0, .int .u8 0, .int .u8 0, .int .u8 0, .int .u8 0, .int .u8 0, .int .u8 0, .int .u8 0, .int .u8 0, .int .u8 0, .int .u8 0] 77 w5 fun k23 w8 =>
  stA Try.prog (⟨k23, 0, none⟩ : Addr) 36 #[.int .u32 n19, .int .u32 n22, .int .u64 0, .int .u64 0, .int .u8 0, .int .u8 0, .int .u8 0, .int .u8 0, .int .u8 0, .int .u8 0, .int .u8 0, .int .u8 0, .int .u8 0, .int .u8 0, .int .u8 0, .int .u8 0, .int .u8 0, .int .u8 0, .int .u8 0, .int .u8 0, .int .u8 0, .int .u8 0, .int .u8 0, .int .u8 0, .int .u8 0, .int .u8 0, .int .u8 0, .int .u8 0, .int .u8 0, .int .u8 0, .int .u8 0, .int .u8 0, .int .u8 0, .int .u8 0, .int .u8 0, .int .u8 0] w8 fun w9 =>
  call Try.prog 39 #[.pointer p4, .int .i64 8] w9 fun v24 w10 =>
  ∃ (n25 : Int) (n26 : Int),
  v24 = .tuple #[.int .u64 n25, .int .i64 n26] ∧
  st ((⟨k23, 0, none⟩ : Addr).add 2) (.int .u64 n25) w10 fun w11 =>
  call Try.prog 39 #[.pointer p4, .int .i64 8] w11 fun v27 w12 =>
  ∃ (n28 : Int) (n29 : Int),
  v27 = .tuple #[.int .u64 n28, .int .i64 n29] ∧
  st ((⟨k23, 0, none⟩ : Addr).add 3) (.int .u64 n28) w12 fun w13 =>
  call Try.prog 52 #[.pointer p4] w13 fun v30 w14 =>
  asA v30 fun g31 =>
  stA Try.prog ((⟨k23, 0, none⟩ : Addr).add 4) 16 g31 w14 fun w15 =>
  call Try.prog 52 #[.pointer p4] w15 fun v32 w16 =>
  asA v32 fun g33 =>
  stA Try.prog ((⟨k23, 0, none⟩ : Addr).add 20) 16 g33 w16 fun w17 =>
  idxA (⟨k5, 0, none⟩ : Addr) 4 0 1 fun a34 =>
  ldI .u64 a34 w17 fun n35 =>
  br ((n35 : Int) != 1464812877) (
  stA Try.prog (⟨k1, 0, none⟩ : Addr) 36 #[.int .u32 0, .int .u32 0, .int .u64 0, .int .u64 0, .int .u8 0, .int .u8 0, .int .u8 0, .int .u8 0, .int .u8 0, .int .u8 0, .int .u8 0, .int .u8 0, .int .u8 0, .int .u8 0, .int .u8 0, .int .u8 0, .int .u8 0, .int .u8 0, .int .u8 0, .int .u8 0, .int .u8 0, .int .u8 0, .int .u8 0, .int .u8 0, .int .u8 0, .int .u8 0, .int .u8 0, .int .u8 0, .int .u8 0, .int .u8 0, .int .u8 0, .int .u8 0, .int .u8 0, .int .u8 0, .int .u8 0, .int .u8 0] w17 fun w18 =>
  ldA (⟨k1, 0, none⟩ : Addr) 36 w18 fun g36 =>
  R (.tuple #[.agg g36, .int .i64 5]) w18) (
  idxA (⟨k5, 0, none⟩ : Addr) 4 3 1 fun a37 =>
  ldI .u64 a37 w17 fun n38 =>
  br ((n38 : Int) != 0) (
  stA Try.prog (⟨k1, 0, none⟩ : Addr) 36 #[.int .u32 0, .int .u32 0, .int .u64 0, .int .u64 0, .int .u8 0, .int .u8 0, .int .u8 0, .int .u8 0, .int .u8 0, .int .u8 0, .int .u8 0, .int .u8 0, .int .u8 0, .int .u8 0, .int .u8 0, .int .u8 0, .int .u8 0, .int .u8 0, .int .u8 0, .int .u8 0, .int .u8 0, .int .u8 0, .int .u8 0, .int .u8 0, .int .u8 0, .int .u8 0, .int .u8 0, .int .u8 0, .int .u8 0, .int .u8 0, .int .u8 0, .int .u8 0, .int .u8 0, .int .u8 0, .int .u8 0, .int .u8 0] w17 fun w19 =>
  ldA (⟨k1, 0, none⟩ : Addr) 36 w19 fun g39 =>
  R (.tuple #[.agg g39, .int .i64 5]) w19) (
  call Try.prog 53 #[.pointer p4] w17 fun v40 w20 =>
  asI .i64 v40 fun n41 =>
  br ((n41 : Int) != 0) (
  stA Try.prog (⟨k1, 0, none⟩ : Addr) 36 #[.int .u32 0, .int .u32 0, .int .u64 0, .int .u64 0, .int .u8 0, .int .u8 0, .int .u8 0, .int .u8 0, .int .u8 0, .int .u8 0, .int .u8 0, .int .u8 0, .int .u8 0, .int .u8 0, .int .u8 0, .int .u8 0, .int .u8 0, .int .u8 0, .int .u8 0, .int .u8 0, .int .u8 0, .int .u8 0, .int .u8 0, .int .u8 0, .int .u8 0, .int .u8 0, .int .u8 0, .int .u8 0, .int .u8 0, .int .u8 0, .int .u8 0, .int .u8 0, .int .u8 0, .int .u8 0, .int .u8 0, .int .u8 0] w20 fun w21 =>
  ldA (⟨k1, 0, none⟩ : Addr) 36 w21 fun g42 =>
  R (.tuple #[.agg g42, .int .i64 5]) w21) (
  ldA (⟨k23, 0, none⟩ : Addr) 36 w20 fun g43 =>
  call Try.prog 51 #[.agg g43] w20 fun v44 w22 =>
  asI .i64 v44 fun n45 =>
  br ((n45 : Int) != 0) (
  stA Try.prog (⟨k1, 0, none⟩ : Addr) 36 #[.int .u32 0, .int .u32 0, .int .u64 0, .int .u64 0, .int .u8 0, .int .u8 0, .int .u8 0, .int .u8 0, .int .u8 0, .int .u8 0, .int .u8 0, .int .u8 0, .int .u8 0, .int .u8 0, .int .u8 0, .int .u8 0, .int .u8 0, .int .u8 0, .int .u8 0, .int .u8 0, .int .u8 0, .int .u8 0, .int .u8 0, .int .u8 0, .int .u8 0, .int .u8 0, .int .u8 0, .int .u8 0, .int .u8 0, .int .u8 0, .int .u8 0, .int .u8 0, .int .u8 0, .int .u8 0, .int .u8 0, .int .u8 0] w22 fun w23 =>
  ldA (⟨k1, 0, none⟩ : Addr) 36 w23 fun g46 =>
  R (.tuple #[.agg g46, .int .i64 5]) w23) (
  ldA (⟨k23, 0, none⟩ : Addr) 36 w22 fun g47 =>
  stA Try.prog (⟨k1, 0, none⟩ : Addr) 36 g47 w22 fun w24 =>
  ldA (⟨k1, 0, none⟩ : Addr) 36 w24 fun g48 =>
  R (.tuple #[.agg g48, .int .i64 0]) w24))))))
@[irreducible] def objref_Decode_ann : Ann := .seq .none (.seq .none (.seq .none (.seq .none (.seq (.seq .none (.one (.loop [(14, .int .i64)] .none))) .none))))
theorem objref_Decode_call {x0 : Option Addr} {y0 z0 : Nat} {R : Value → World → Prop} {w : World} (h : objref_Decode x0 y0 z0 R w) : call Try.prog 40 #[.slice x0 y0 z0] w R :=
  call_of_fnW plain mixed Try.func40 objref_Decode_ann (Eq.mp (by kernel_rfl : objref_Decode x0 y0 z0 R w = fnW Try.prog Try.f40 objref_Decode_ann #[.slice x0 y0 z0] R w) h)

def wire_Reader_Left (x0 : Option Addr) (R : Value → World → Prop) (w : World) : Prop :=
  br x0.isNone (
  R (.int .i64 0) w) (
  nn x0 fun a1 =>
  ldS (a1.add 0) w.drew fun p2 l2 c2 =>
  nn x0 fun a3 =>
  ldI .i64 (a3.add 1) w.drew fun n4 =>
  arith .i64 ((l2 : Int) - n4) fun n5 =>
  R (.int .i64 n5) w.drew)
@[irreducible] def wire_Reader_Left_ann : Ann := .seq .none (.seq .none (.seq (.draw [[], [0], [0, 1], [0, 1, 2], [0, 1, 2, 3], [], [5], [5, 6], [5, 6, 7], [0, 1, 2, 3, 4, 5, 6, 7, 8], [0, 1, 2, 3, 4, 5, 6, 7, 8, 9]] (ol [0, 1, 2, 3, 4, 5, 6, 7, 8, 9, 10] .nil)) .none))
theorem wire_Reader_Left_call {x0 : Option Addr} {R : Value → World → Prop} {w : World} (h : wire_Reader_Left x0 R w) : call Try.prog 41 #[.pointer x0] w R :=
  call_of_fnW plain mixed Try.func41 wire_Reader_Left_ann (Eq.mp (by kernel_rfl : wire_Reader_Left x0 R w = fnW Try.prog Try.f41 wire_Reader_Left_ann #[.pointer x0] R w) h)

def bytes_Equal (x0 : Option Addr) (y0 z0 : Nat) (x1 : Option Addr) (y1 z1 : Nat) (R : Value → World → Prop) (w : World) : Prop :=
  runsT Try.prog (convert 66 9 (.slice x0 y0 z0)) w fun s1 w1 =>
  runsT Try.prog (convert 66 9 (.slice x1 y1 z1)) w1 fun s2 w2 =>
  R (.bool (s1.toList == s2.toList)) w2
@[irreducible] def bytes_Equal_ann : Ann := .none
theorem bytes_Equal_call {x0 : Option Addr} {y0 z0 : Nat} {x1 : Option Addr} {y1 z1 : Nat} {R : Value → World → Prop} {w : World} (h : bytes_Equal x0 y0 z0 x1 y1 z1 R w) : call Try.prog 42 #[.slice x0 y0 z0, .slice x1 y1 z1] w R :=
  call_of_fnW plain mixed Try.func42 bytes_Equal_ann (Eq.mp (by kernel_rfl : bytes_Equal x0 y0 z0 x1 y1 z1 R w = fnW Try.prog Try.f42 bytes_Equal_ann #[.slice x0 y0 z0, .slice x1 y1 z1] R w) h)

def tenonref08_Right (x0 : Array Value) (R : Value → World → Prop) (w : World) : Prop :=
  new x0 35 w fun k1 w1 =>
  ldI .i64 ((⟨k1, 0, none⟩ : Addr).add 1) w1 fun n2 =>
  br (decide ((n2 : Int) < 0)) (
  R (.bool false) w1) (
  ldI .i64 ((⟨k1, 0, none⟩ : Addr).add 1) w1 fun n3 =>
  br (decide ((n3 : Int) > 3)) (
  R (.bool false) w1) (
  ldI .i64 ((⟨k1, 0, none⟩ : Addr).add 2) w1 fun n4 =>
  br (decide ((n4 : Int) < 0)) (
  R (.bool false) w1) (
  ldI .i64 ((⟨k1, 0, none⟩ : Addr).add 2) w1 fun n5 =>
  br (decide ((n5 : Int) > 3)) (
  R (.bool false) w1) (
  ldI .i64 ((⟨k1, 0, none⟩ : Addr).add 1) w1 fun n6 =>
  ldI .i64 ((⟨k1, 0, none⟩ : Addr).add 2) w1 fun n7 =>
  br ((n6 : Int) == n7) (
  R (.bool false) w1) (
  new #[.int .u8 0, .int .u8 0, .int .u8 0, .int .u8 0, .int .u8 0, .int .u8 0, .int .u8 0, .int .u8 0, .int .u8 0, .int .u8 0, .int .u8 0, .int .u8 0, .int .u8 0, .int .u8 0, .int .u8 0, .int .u8 0] 32 w1 fun k8 w2 =>
  stA Try.prog (⟨k8, 0, none⟩ : Addr) 16 #[.int .u8 0, .int .u8 0, .int .u8 0, .int .u8 0, .int .u8 0, .int .u8 0, .int .u8 0, .int .u8 0, .int .u8 0, .int .u8 0, .int .u8 0, .int .u8 0, .int .u8 0, .int .u8 0, .int .u8 0, .int .u8 0] w2 fun w3 =>
  ldI .i64 ((⟨k1, 0, none⟩ : Addr).add 0) w3 fun n9 =>
  br ((n9 : Int) == 1) (
  ldS ((⟨k1, 0, none⟩ : Addr).add 24) w3 fun p10 l10 c10 =>
  br (decide ((l10 : Int) > 1)) (
  R (.bool false) w3) (
  ldS ((⟨k1, 0, none⟩ : Addr).add 24) w3 fun p11 l11 c11 =>
  br ((l11 : Int) == 1) (
  ldS ((⟨k1, 0, none⟩ : Addr).add 24) w3 fun p12 l12 c12 =>
  idx p12 l12 0 36 fun a13 =>
  ldA a13 36 w3 fun g14 =>
  call Try.prog 54 #[.agg g14] w3 fun v15 w4 =>
  asB v15 fun b16 =>
  br (!b16) (
  R (.bool false) w4) (
  ldI .i64 ((⟨k1, 0, none⟩ : Addr).add 21) w4 fun n17 =>
  br (decide ((n17 : Int) ≥ 0)) (
  ldI .i64 ((⟨k1, 0, none⟩ : Addr).add 21) w4 fun n18 =>
  br (decide ((n18 : Int) ≤ 7)) (
  ldI .i64 ((⟨k1, 0, none⟩ : Addr).add 23) w4 fun n19 =>
  R (.bool ((n19 : Int) == 0)) w4) (
  R (.bool false) w4)) (
  R (.bool false) w4))) (
  ldI .i64 ((⟨k1, 0, none⟩ : Addr).add 21) w3 fun n20 =>
  br (decide ((n20 : Int) ≥ 0)) (
  ldI .i64 ((⟨k1, 0, none⟩ : Addr).add 21) w3 fun n21 =>
  br (decide ((n21 : Int) ≤ 7)) (
  ldI .i64 ((⟨k1, 0, none⟩ : Addr).add 23) w3 fun n22 =>
  R (.bool ((n22 : Int) == 0)) w3) (
  R (.bool false) w3)) (
  R (.bool false) w3)))) (
  br ((n9 : Int) == 2) (
  ldA ((⟨k1, 0, none⟩ : Addr).add 5) 16 w3 fun g23 =>
  ldA (⟨k8, 0, none⟩ : Addr) 16 w3 fun g24 =>
  still Try.prog (Op.equal 32 (.agg g23) (.agg g24)) fun b25 =>
  br b25 (
  ldI .i64 ((⟨k1, 0, none⟩ : Addr).add 21) w3 fun n26 =>
  br ((n26 : Int) == 0) (
  ldS ((⟨k1, 0, none⟩ : Addr).add 24) w3 fun p27 l27 c27 =>
  br ((l27 : Int) == 0) (
  ldI .i64 ((⟨k1, 0, none⟩ : Addr).add 23) w3 fun n28 =>
  br (decide ((n28 : Int) ≥ 0)) (
  ldI .i64 ((⟨k1, 0, none⟩ : Addr).add 23) w3 fun n29 =>
  R (.bool (decide ((n29 : Int) ≤ 20))) w3) (
  R (.bool false) w3)) (
  R (.bool false) w3)) (
  R (.bool false) w3)) (
  R (.bool false) w3)) (
  ∃ J30 : Bool → World → Prop, (
  br ((n9 : Int) == 3) (
  J30 ((n9 : Int) == 3) w3) (
  J30 ((n9 : Int) == 4) w3)) ∧
  ∀ (u31 : Nat → Value) (b32 : Bool) (w5 : World), J30 b32 w5 →
  br b32 (
  ldI .u64 ((⟨k1, 0, none⟩ : Addr).add 4) w5 fun n33 =>
  br ((n33 : Int) == 0) (
  ldI .i64 ((⟨k1, 0, none⟩ : Addr).add 21) w5 fun n34 =>
  br ((n34 : Int) == 0) (
  ldI .i64 ((⟨k1, 0, none⟩ : Addr).add 23) w5 fun n35 =>
  br ((n35 : Int) == 0) (
  ldS ((⟨k1, 0, none⟩ : Addr).add 24) w5 fun p36 l36 c36 =>
  br ((l36 : Int) == 0) (
  ldI .i64 ((⟨k1, 0, none⟩ : Addr).add 22) w5 fun n37 =>
  br (decide ((n37 : Int) ≥ 1)) (
  ldI .i64 ((⟨k1, 0, none⟩ : Addr).add 22) w5 fun n38 =>
  R (.bool (decide ((n38 : Int) ≤ 4294967295))) w5) (
  R (.bool false) w5)) (
  R (.bool false) w5)) (
  R (.bool false) w5)) (
  R (.bool false) w5)) (
  R (.bool false) w5)) (
  br ((n9 : Int) == 5) (
  ldI .u64 ((⟨k1, 0, none⟩ : Addr).add 4) w5 fun n39 =>
  br ((n39 : Int) == 0) (
  ldA ((⟨k1, 0, none⟩ : Addr).add 5) 16 w5 fun g40 =>
  ldA (⟨k8, 0, none⟩ : Addr) 16 w5 fun g41 =>
  still Try.prog (Op.equal 32 (.agg g40) (.agg g41)) fun b42 =>
  br b42 (
  ldI .i64 ((⟨k1, 0, none⟩ : Addr).add 21) w5 fun n43 =>
  br ((n43 : Int) == 0) (
  ldI .i64 ((⟨k1, 0, none⟩ : Addr).add 23) w5 fun n44 =>
  br ((n44 : Int) == 0) (
  ldI .i64 ((⟨k1, 0, none⟩ : Addr).add 22) w5 fun n45 =>
  br ((n45 : Int) == 0) (
  ldS ((⟨k1, 0, none⟩ : Addr).add 24) w5 fun p46 l46 c46 =>
  R (.bool ((l46 : Int) == 0)) w5) (
  R (.bool false) w5)) (
  R (.bool false) w5)) (
  R (.bool false) w5)) (
  R (.bool false) w5)) (
  R (.bool false) w5)) (
  R (.bool false) w5)))))))))
@[irreducible] def tenonref08_Right_ann : Ann := .seq .none (.seq .none (.seq .none (.seq (.seq .none (.one (.seq .none (.seq .none (.seq .none (.seq .none (.meet [(92, .bool)] .none .none))))))) .none)))
theorem tenonref08_Right_call {x0 : Array Value} {R : Value → World → Prop} {w : World} (h : tenonref08_Right x0 R w) : call Try.prog 43 #[.agg x0] w R :=
  call_of_fnW plain mixed Try.func43 tenonref08_Right_ann (Eq.mp (by kernel_rfl : tenonref08_Right x0 R w = fnW Try.prog Try.f43 tenonref08_Right_ann #[.agg x0] R w) h)

def net_Net_All_1 (x0 : Fn) (y0 z0 : Array Value) (x1 : Addr) (R : Value → World → Prop) (w : World) : Prop :=
  ldP x1 w fun p1 =>
  br p1.isNone (
  R (.tuple #[]) w) (
  ldP x1 w fun p2 =>
  nn p2 fun a3 =>
  ldS (a3.add 1) w fun p4 l4 c4 =>
  call Try.prog 45 #[.slice p4 l4 c4] w fun v5 w1 =>
  asS v5 fun p6 l6 c6 =>
  ∃ I7 : Int → World → Nat → Prop, (∃ m8, I7 0 w1 m8) ∧
  ∀ (u9 : Nat → Value) (n10 : Int) (w2 : World) (m11 : Nat), I7 n10 w2 m11 →
  br (decide ((n10 : Int) < (l6 : Int))) (
  idx p6 l6 n10 1 fun a12 =>
  ldS a12 w2 fun p13 l13 c13 =>
  call Try.prog 25 #[.slice p13 l13 c13] w2 fun v14 w3 =>
  ∃ (g15 : Array Value) (n16 : Int),
  v14 = .tuple #[.agg g15, .int .i64 n16] ∧
  new #[.int .i64 0, .int .i64 0, .int .i64 0, .int .u64 0, .int .u64 0, .int .u8 0, .int .u8 0, .int .u8 0, .int .u8 0, .int .u8 0, .int .u8 0, .int .u8 0, .int .u8 0, .int .u8 0, .int .u8 0, .int .u8 0, .int .u8 0, .int .u8 0, .int .u8 0, .int .u8 0, .int .u8 0, .int .i64 0, .int .i64 0, .int .i64 0, .slice none 0 0] 35 w3 fun k17 w4 =>
  stA Try.prog (⟨k17, 0, none⟩ : Addr) 25 g15 w4 fun w5 =>
  ldA (⟨k17, 0, none⟩ : Addr) 25 w5 fun g18 =>
  callV Try.prog x0 y0 z0 #[.int .i64 n10, .agg g18] w5 fun v19 w6 =>
  asB v19 fun b20 =>
  br (!b20) (
  R (.tuple #[]) w6) (
  arith .i64 (n10 + 1) fun n21 =>
  ∃ m22, m22 < m11 ∧ I7 n21 w6 m22)) (
  R (.tuple #[]) w2))
@[irreducible] def net_Net_All_1_ann : Ann := .seq .none (.seq .none (.one (.loop [(15, .int .i64)] .none)))
theorem net_Net_All_1_call {x0 : Fn} {y0 z0 : Array Value} {x1 : Addr} {R : Value → World → Prop} {w : World} (h : net_Net_All_1 x0 y0 z0 x1 R w) : call Try.prog 44 #[.func x0 y0 z0, .pointer (some x1)] w R :=
  call_of_fnW plain mixed Try.func44 net_Net_All_1_ann (Eq.mp (by kernel_rfl : net_Net_All_1 x0 y0 z0 x1 R w = fnW Try.prog Try.f44 net_Net_All_1_ann #[.func x0 y0 z0, .pointer (some x1)] R w) h)

def slices_Clone (x0 : Option Addr) (y0 z0 : Nat) (R : Value → World → Prop) (w : World) : Prop :=
  br x0.isNone (
  R (.slice none 0 0) w) (
  new #[] 66 w fun k1 w1 =>
  runsS Try.prog (Builtin.append_ #[61, 61] 61 #[.slice (some (⟨k1, 0, none⟩ : Addr)) 0 0, .slice x0 y0 z0]) w1 fun p2 l2 c2 w2 =>
  R (.slice p2 l2 c2) w2)
@[irreducible] def slices_Clone_ann : Ann := .none
theorem slices_Clone_call {x0 : Option Addr} {y0 z0 : Nat} {R : Value → World → Prop} {w : World} (h : slices_Clone x0 y0 z0 R w) : call Try.prog 45 #[.slice x0 y0 z0] w R :=
  call_of_fnW plain mixed Try.func45 slices_Clone_ann (Eq.mp (by kernel_rfl : slices_Clone x0 y0 z0 R w = fnW Try.prog Try.f45 slices_Clone_ann #[.slice x0 y0 z0] R w) h)

end Go.Proofs.Ytjjnbcdcppnllaa
