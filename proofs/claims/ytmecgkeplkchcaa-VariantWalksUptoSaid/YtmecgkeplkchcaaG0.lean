/- The shallow forms of the functions of the translation, printed by a program of this repository, each proved sound. No conditions. -/
import Derived.Test.YtmecgkeplkchcaaChecked
import Derived.Test.YtmecgkeplkchcaaSp5
import Derived.Eval
set_option linter.unusedVariables false
namespace Go.Proofs.Ytmecgkeplkchcaa
open Go.Sp
theorem plain : Plain Try.prog := by
  have h : (Try.prog.funcs.toList.all fun fn => !(fn.name == "runtime.NumGoroutine")) = true := by kernel_rfl
  intro f fn hf
  have := List.all_eq_true.1 h fn (by simpa using Array.mem_of_getElem? hf)
  simpa using this
theorem mixed : Try.prog.follows .mixedOrders = true := Checked.mixed Try.checked
abbrev T_api_Var : Nat := 24
abbrev T_api_Errno : Nat := 25
abbrev T_tenonref06_Deep : Nat := 48
abbrev T_iter_Seq2_int_api_Var_ : Nat := 54
abbrev T_wire_Writer : Nat := 74
abbrev T_wire_Reader : Nat := 77
abbrev T_int64 : Nat := 2
abbrev T_int : Nat := 3
abbrev T_bool : Nat := 4
abbrev T_uint8 : Nat := 5
abbrev T_string : Nat := 9
abbrev T_uintptr : Nat := 12
abbrev T_int32 : Nat := 21
abbrev T_sl_api_Var : Nat := 22
abbrev T_sl_uint8 : Nat := 30
abbrev T_sl_tenonref06_Deep : Nat := 43
abbrev T_sl_uint64 : Nat := 46
abbrev T_uint64 : Nat := 49
abbrev T_uint32 : Nat := 60
abbrev T_map_int_int : Nat := 80
abbrev T_ptr_uint8 : Nat := 96
abbrev fn_tenonlaw06_VariantChecks : Nat := 3
abbrev fn_tenonlaw06_VariantEncodes : Nat := 4
abbrev fn_tenonlaw06_VariantDecodes : Nat := 5
abbrev fn_tenonlaw06_VariantBack : Nat := 6
abbrev fn_tenonlaw06_VariantWalks : Nat := 7
abbrev fn_tenonlaw06_VariantSame : Nat := 8
abbrev fn_variant_Check : Nat := 9
abbrev fn_tenonref06_Check : Nat := 10
abbrev fn_tenonlaw06_awake : Nat := 11
abbrev fn_variant_Encode : Nat := 12
abbrev fn_tenonref01_SameBytes : Nat := 13
abbrev fn_tenonref06_Encode : Nat := 14
abbrev fn_tenonref01_Lent : Nat := 15
abbrev fn_variant_Decode : Nat := 16
abbrev fn_tenonref06_Decode : Nat := 17
abbrev fn_tenonref06_Same : Nat := 18
abbrev fn_tenonref01_Kept : Nat := 19
abbrev fn_tenonref06_Walk : Nat := 20
abbrev fn_tenonref01_Pick : Nat := 21
abbrev fn_tenonlaw06_walked : Nat := 22
abbrev fn_tenonref01_SameLongs : Nat := 23
abbrev fn_variant_Refs : Nat := 24
abbrev fn_variant_Same : Nat := 25
abbrev fn_variant_Walk : Nat := 26
abbrev fn_variant_right : Nat := 27
abbrev fn_tenonref06_form : Nat := 28
abbrev fn_tenonlaw06_some : Nat := 29
abbrev fn_wire_NewWriter : Nat := 30
abbrev fn_wire_Writer_Num : Nat := 31
abbrev fn_wire_Writer_Text : Nat := 32
abbrev fn_wire_Writer_Bytes : Nat := 33
abbrev fn_tenonref05_Num : Nat := 34
abbrev fn_tenonref05_Text : Nat := 35
abbrev fn_wire_NewReader : Nat := 36
abbrev fn_variant_decode : Nat := 37
abbrev fn_wire_Reader_End : Nat := 38
abbrev fn_tenonref06_Read : Nat := 39
abbrev fn_variant_Walk_1 : Nat := 40
abbrev fn_variant_walk : Nat := 41
abbrev fn_wire_fits : Nat := 42
abbrev fn_wire_gap : Nat := 43
abbrev fn_bytes_Clone : Nat := 44
abbrev fn_wire_Reader_Num : Nat := 45
abbrev fn_wire_Reader_Text : Nat := 46
abbrev fn_wire_Reader_Left : Nat := 47
abbrev fn_tenonref05_Read : Nat := 48
abbrev fn_tenonref05_ReadText : Nat := 49
abbrev fn_tenonref05_Fits : Nat := 50

def tenonlaw06_VariantChecks (x0 : Array Value) (R : Value → World → Prop) (w : World) : Prop :=
  new x0 24 w fun k1 w1 =>
  ldA (⟨k1, 0, none⟩ : Addr) 4 w1.drew fun g2 =>
  ldA (⟨k1, 0, none⟩ : Addr) 4 w1.drew fun g3 =>
  call Try.prog 9 #[.agg g2] w1.drew fun v4 w2 =>
  asI .i64 v4 fun n5 =>
  keepS (cellsOf (⟨k1, 0, none⟩ : Addr) g3) w2 (
  call Try.prog 10 #[.agg g3, .int .i64 1] w2 fun v6 w3 =>
  asI .i64 v6 fun n7 =>
  br ((n5 : Int) == n7) (
  call Try.prog 11 #[] w3 fun v8 w4 =>
  asB v8 fun b9 =>
  R (.bool b9) w4) (
  R (.bool false) w3))
@[irreducible] def tenonlaw06_VariantChecks_ann : Ann := .seq .none (.seq (.draw [[], [0], [], [0, 1, 2], [0, 1, 2, 3], [0, 1, 2, 3, 4], [0, 1, 2, 3, 4, 5], [0, 1, 2, 3, 4, 5, 6], [0, 1, 2, 3, 4, 5, 6, 7]] (ol [0, 2, 1, 3, 4, 5, 6, 7, 8] .nil)) .none)
theorem tenonlaw06_VariantChecks_call {x0 : Array Value} {R : Value → World → Prop} {w : World} (h : tenonlaw06_VariantChecks x0 R w) : call Try.prog 3 #[.agg x0] w R :=
  call_of_fnW plain mixed Try.func3 tenonlaw06_VariantChecks_ann (Eq.mp (by kernel_rfl : tenonlaw06_VariantChecks x0 R w = fnW Try.prog Try.f3 tenonlaw06_VariantChecks_ann #[.agg x0] R w) h)

def tenonlaw06_VariantEncodes (x0 : Array Value) (R : Value → World → Prop) (w : World) : Prop :=
  new x0 24 w fun k1 w1 =>
  ldA (⟨k1, 0, none⟩ : Addr) 4 w1 fun g2 =>
  call Try.prog 12 #[.agg g2] w1 fun v3 w2 =>
  ∃ (p4 : Option Addr) (l4 c4 : Nat) (n5 : Int),
  v3 = .tuple #[.slice p4 l4 c4, .int .i64 n5] ∧
  ldA (⟨k1, 0, none⟩ : Addr) 4 w2 fun g6 =>
  call Try.prog 10 #[.agg g6, .int .i64 1] w2 fun v7 w3 =>
  asI .i64 v7 fun n8 =>
  br ((n5 : Int) != n8) (
  R (.bool false) w3) (
  br ((n8 : Int) != 0) (
  br ((l4 : Int) == 0) (
  call Try.prog 11 #[] w3 fun v9 w4 =>
  asB v9 fun b10 =>
  R (.bool b10) w4) (
  R (.bool false) w3)) (
  ldA (⟨k1, 0, none⟩ : Addr) 4 w3 fun g11 =>
  call Try.prog 14 #[.slice none 0 0, .agg g11] w3 fun v12 w5 =>
  asS v12 fun p13 l13 c13 =>
  call Try.prog 13 #[.slice p4 l4 c4, .slice p13 l13 c13] w5 fun v14 w6 =>
  asB v14 fun b15 =>
  br b15 (
  call Try.prog 11 #[] w6 fun v16 w7 =>
  asB v16 fun b17 =>
  R (.bool b17) w7) (
  R (.bool false) w6)))
@[irreducible] def tenonlaw06_VariantEncodes_ann : Ann := .none
theorem tenonlaw06_VariantEncodes_call {x0 : Array Value} {R : Value → World → Prop} {w : World} (h : tenonlaw06_VariantEncodes x0 R w) : call Try.prog 4 #[.agg x0] w R :=
  call_of_fnW plain mixed Try.func4 tenonlaw06_VariantEncodes_ann (Eq.mp (by kernel_rfl : tenonlaw06_VariantEncodes x0 R w = fnW Try.prog Try.f4 tenonlaw06_VariantEncodes_ann #[.agg x0] R w) h)

def tenonlaw06_VariantDecodes (x0 : Option Addr) (y0 z0 : Nat) (R : Value → World → Prop) (w : World) : Prop :=
  call Try.prog 15 #[.slice x0 y0 z0] w fun v1 w1 =>
  asS v1 fun p2 l2 c2 =>
  call Try.prog 16 #[.slice p2 l2 c2] w1 fun v3 w2 =>
  ∃ (g4 : Array Value) (n5 : Int),
  v3 = .tuple #[.agg g4, .int .i64 n5] ∧
  new #[.int .i64 0, .int .i64 0, .string ByteArray.empty, .slice none 0 0] 24 w2 fun k6 w3 =>
  stA Try.prog (⟨k6, 0, none⟩ : Addr) 4 g4 w3 fun w4 =>
  call Try.prog 17 #[.slice x0 y0 z0] w4 fun v7 w5 =>
  ∃ (g8 : Array Value) (n9 : Int),
  v7 = .tuple #[.agg g8, .int .i64 n9] ∧
  new #[.int .i64 0, .int .i64 0, .string ByteArray.empty, .slice none 0 0] 24 w5 fun k10 w6 =>
  stA Try.prog (⟨k10, 0, none⟩ : Addr) 4 g8 w6 fun w7 =>
  ldA (⟨k6, 0, none⟩ : Addr) 4 w7 fun g11 =>
  ldA (⟨k10, 0, none⟩ : Addr) 4 w7 fun g12 =>
  call Try.prog 18 #[.agg g11, .agg g12] w7 fun v13 w8 =>
  asB v13 fun b14 =>
  br b14 (
  br ((n5 : Int) == n9) (
  call Try.prog 19 #[.slice p2 l2 c2, .slice x0 y0 z0] w8 fun v15 w9 =>
  asB v15 fun b16 =>
  br b16 (
  call Try.prog 11 #[] w9 fun v17 w10 =>
  asB v17 fun b18 =>
  R (.bool b18) w10) (
  R (.bool false) w9)) (
  R (.bool false) w8)) (
  R (.bool false) w8)
@[irreducible] def tenonlaw06_VariantDecodes_ann : Ann := .none
theorem tenonlaw06_VariantDecodes_call {x0 : Option Addr} {y0 z0 : Nat} {R : Value → World → Prop} {w : World} (h : tenonlaw06_VariantDecodes x0 y0 z0 R w) : call Try.prog 5 #[.slice x0 y0 z0] w R :=
  call_of_fnW plain mixed Try.func5 tenonlaw06_VariantDecodes_ann (Eq.mp (by kernel_rfl : tenonlaw06_VariantDecodes x0 y0 z0 R w = fnW Try.prog Try.f5 tenonlaw06_VariantDecodes_ann #[.slice x0 y0 z0] R w) h)

def tenonlaw06_VariantBack (x0 : Array Value) (x1 : Option Addr) (y1 z1 : Nat) (R : Value → World → Prop) (w : World) : Prop :=
  new x0 24 w fun k1 w1 =>
  ldA (⟨k1, 0, none⟩ : Addr) 4 w1 fun g2 =>
  call Try.prog 12 #[.agg g2] w1 fun v3 w2 =>
  ∃ (p4 : Option Addr) (l4 c4 : Nat) (n5 : Int),
  v3 = .tuple #[.slice p4 l4 c4, .int .i64 n5] ∧
  ∃ J6 : World → Prop, (
  br ((n5 : Int) == 0) (
  call Try.prog 16 #[.slice p4 l4 c4] w2 fun v7 w3 =>
  ∃ (g8 : Array Value) (n9 : Int),
  v7 = .tuple #[.agg g8, .int .i64 n9] ∧
  new #[.int .i64 0, .int .i64 0, .string ByteArray.empty, .slice none 0 0] 24 w3 fun k10 w4 =>
  stA Try.prog (⟨k10, 0, none⟩ : Addr) 4 g8 w4 fun w5 =>
  br ((n9 : Int) != 0) (
  R (.bool false) w5) (
  ldA (⟨k10, 0, none⟩ : Addr) 4 w5 fun g11 =>
  ldA (⟨k1, 0, none⟩ : Addr) 4 w5 fun g12 =>
  call Try.prog 18 #[.agg g11, .agg g12] w5 fun v13 w6 =>
  asB v13 fun b14 =>
  br (!b14) (
  R (.bool false) w6) (
  J6  w6))) (
  J6  w2)) ∧
  ∀ (u15 : Nat → Value)  (w7 : World), J6  w7 →
  call Try.prog 16 #[.slice x1 y1 z1] w7 fun v16 w8 =>
  ∃ (g17 : Array Value) (n18 : Int),
  v16 = .tuple #[.agg g17, .int .i64 n18] ∧
  new #[.int .i64 0, .int .i64 0, .string ByteArray.empty, .slice none 0 0] 24 w8 fun k19 w9 =>
  stA Try.prog (⟨k19, 0, none⟩ : Addr) 4 g17 w9 fun w10 =>
  br ((n18 : Int) != 0) (
  ldA (⟨k19, 0, none⟩ : Addr) 4 w10 fun g20 =>
  call Try.prog 18 #[.agg g20, .agg #[.int .i64 0, .int .i64 0, .string ByteArray.empty, .slice none 0 0]] w10 fun v21 w11 =>
  asB v21 fun b22 =>
  br b22 (
  call Try.prog 11 #[] w11 fun v23 w12 =>
  asB v23 fun b24 =>
  R (.bool b24) w12) (
  R (.bool false) w11)) (
  ldA (⟨k19, 0, none⟩ : Addr) 4 w10 fun g25 =>
  call Try.prog 12 #[.agg g25] w10 fun v26 w13 =>
  ∃ (p27 : Option Addr) (l27 c27 : Nat) (n28 : Int),
  v26 = .tuple #[.slice p27 l27 c27, .int .i64 n28] ∧
  ldA (⟨k19, 0, none⟩ : Addr) 4 w13 fun g29 =>
  call Try.prog 9 #[.agg g29] w13 fun v30 w14 =>
  asI .i64 v30 fun n31 =>
  br ((n31 : Int) == 0) (
  br ((n28 : Int) == 0) (
  call Try.prog 13 #[.slice p27 l27 c27, .slice x1 y1 z1] w14 fun v32 w15 =>
  asB v32 fun b33 =>
  br b33 (
  call Try.prog 11 #[] w15 fun v34 w16 =>
  asB v34 fun b35 =>
  R (.bool b35) w16) (
  R (.bool false) w15)) (
  R (.bool false) w14)) (
  R (.bool false) w14))
@[irreducible] def tenonlaw06_VariantBack_ann : Ann := .seq .none (.seq .none (.meet [] .none .none))
theorem tenonlaw06_VariantBack_call {x0 : Array Value} {x1 : Option Addr} {y1 z1 : Nat} {R : Value → World → Prop} {w : World} (h : tenonlaw06_VariantBack x0 x1 y1 z1 R w) : call Try.prog 6 #[.agg x0, .slice x1 y1 z1] w R :=
  call_of_fnW plain mixed Try.func6 tenonlaw06_VariantBack_ann (Eq.mp (by kernel_rfl : tenonlaw06_VariantBack x0 x1 y1 z1 R w = fnW Try.prog Try.f6 tenonlaw06_VariantBack_ann #[.agg x0, .slice x1 y1 z1] R w) h)

def tenonlaw06_VariantWalks (x0 : Array Value) (x1 : Int) (R : Value → World → Prop) (w : World) : Prop :=
  new x0 24 w fun k1 w1 =>
  ldA (⟨k1, 0, none⟩ : Addr) 4 w1 fun g2 =>
  call Try.prog 20 #[.agg g2, .int .i64 0] w1 fun v3 w2 =>
  asS v3 fun p4 l4 c4 =>
  br (decide ((l4 : Int) > 2000)) (
  call Try.prog 11 #[] w2 fun v5 w3 =>
  asB v5 fun b6 =>
  R (.bool b6) w3) (
  arith .i64 ((l4 : Int) + 1) fun n7 =>
  call Try.prog 21 #[.int .i64 x1, .int .i64 n7] w2 fun v8 w4 =>
  asI .i64 v8 fun n9 =>
  ldA (⟨k1, 0, none⟩ : Addr) 4 w4.drew fun g10 =>
  ldA (⟨k1, 0, none⟩ : Addr) 4 w4.drew fun g11 =>
  call Try.prog 22 #[.agg g10, .int .i64 5000] w4.drew fun v12 w5 =>
  asS v12 fun p13 l13 c13 =>
  keepS (cellsOf (⟨k1, 0, none⟩ : Addr) g11) w5 (
  call Try.prog 22 #[.agg g11, .int .i64 n9] w5 fun v14 w6 =>
  asS v14 fun p15 l15 c15 =>
  br ((l13 : Int) != (l4 : Int)) (
  R (.bool false) w6) (
  br ((l15 : Int) != n9) (
  R (.bool false) w6) (
  ∃ I16 : Option Addr → Nat → Nat → Int → World → Nat → Prop, (∃ m17, I16 none 0 0 0 w6 m17) ∧
  ∀ (u18 : Nat → Value) (p19 : Option Addr) (l19 c19 : Nat) (n20 : Int) (w7 : World) (m21 : Nat), I16 p19 l19 c19 n20 w7 m21 →
  br (decide ((n20 : Int) < (l13 : Int))) (
  ∃ J22 : World → Prop, (
  idx p13 l13 n20 5 fun a23 =>
  ldI .i64 (a23.add 0) w7.drew fun n24 =>
  idx p4 l4 n20 5 fun a25 =>
  ldI .i64 (a25.add 0) w7.drew fun n26 =>
  br ((n24 : Int) != n26) (
  R (.bool false) w7.drew) (
  idx p13 l13 n20 5 fun a27 =>
  ldA (a27.add 1) 4 w7.drew fun g28 =>
  idx p4 l4 n20 5 fun a29 =>
  ldA (a29.add 1) 4 w7.drew fun g30 =>
  call Try.prog 18 #[.agg g28, .agg g30] w7.drew fun v31 w8 =>
  asB v31 fun b32 =>
  br (!b32) (
  R (.bool false) w8) (
  br (decide ((n20 : Int) < n9)) (
  idx p15 l15 n20 5 fun a33 =>
  ldA (a33.add 1) 4 w8 fun g34 =>
  idx p4 l4 n20 5 fun a35 =>
  ldA (a35.add 1) 4 w8 fun g36 =>
  call Try.prog 18 #[.agg g34, .agg g36] w8 fun v37 w9 =>
  asB v37 fun b38 =>
  br (!b38) (
  R (.bool false) w9) (
  J22  w9)) (
  J22  w8)))) ∧
  ∀ (u39 : Nat → Value)  (w10 : World), J22  w10 →
  idx p4 l4 n20 5 fun a40 =>
  ldI .i64 ((a40.add 1).add 0) w10 fun n41 =>
  br ((n41 : Int) == 5) (
  idx p4 l4 n20 5 fun a42 =>
  ldI .i64 ((a42.add 1).add 1) w10 fun n43 =>
  arith .u64 n43 fun n44 =>
  new #[.int .u64 n44] 49 w10 fun k45 w11 =>
  runsS Try.prog (Builtin.append_ #[46, 46] 46 #[.slice p19 l19 c19, .slice (some (⟨k45, 0, none⟩ : Addr)) 1 1]) w11 fun p46 l46 c46 w12 =>
  arith .i64 (n20 + 1) fun n47 =>
  ∃ m48, m48 < m21 ∧ I16 p46 l46 c46 n47 w12 m48) (
  arith .i64 (n20 + 1) fun n49 =>
  ∃ m50, m50 < m21 ∧ I16 p19 l19 c19 n49 w10 m50)) (
  ldA (⟨k1, 0, none⟩ : Addr) 4 w7 fun g51 =>
  call Try.prog 24 #[.agg g51] w7 fun v52 w13 =>
  asS v52 fun p53 l53 c53 =>
  call Try.prog 23 #[.slice p53 l53 c53, .slice p19 l19 c19] w13 fun v54 w14 =>
  asB v54 fun b55 =>
  br b55 (
  call Try.prog 11 #[] w14 fun v56 w15 =>
  asB v56 fun b57 =>
  R (.bool b57) w15) (
  R (.bool false) w14))))))
@[irreducible] def tenonlaw06_VariantWalks_ann : Ann := .seq .none (.seq .none (.seq .none (.seq .none (.seq (.draw [[], [0], [], [], [0, 1, 2, 3], [0, 1, 2, 3, 4], [0, 1, 2, 3, 4, 5]] (ol [0, 2, 3, 1, 4, 5, 6] .nil)) (.seq .none (.seq .none (.seq (.seq .none (.one (.loop [(9, .slice), (10, .int .i64)] (.seq .none (.seq (.one (.meet [] (.seq (.draw [[], [], [0, 1], [0, 1, 2], [0, 1, 2, 3], [], [], [5, 6], [5, 6, 7], [5, 6, 7, 8], [0, 1, 2, 3, 4, 5, 6, 7, 8, 9], [0, 1, 2, 3, 4, 5, 6, 7, 8, 9, 10], [0, 1, 2, 3, 4, 5, 6, 7, 8, 9, 10, 11], [0, 1, 2, 3, 4, 5, 6, 7, 8, 9, 10, 11], [0, 1, 2, 3, 4, 5, 6, 7, 8, 9, 10, 11, 12, 13], [0, 1, 2, 3, 4, 5, 6, 7, 8, 9, 10, 11, 12, 13, 14], [0, 1, 2, 3, 4, 5, 6, 7, 8, 9, 10, 11, 12, 13, 14, 15], [0, 1, 2, 3, 4, 5, 6, 7, 8, 9, 10, 11], [0, 1, 2, 3, 4, 5, 6, 7, 8, 9, 10, 11], [0, 1, 2, 3, 4, 5, 6, 7, 8, 9, 10, 11, 17, 18], [0, 1, 2, 3, 4, 5, 6, 7, 8, 9, 10, 11, 17, 18, 19], [0, 1, 2, 3, 4, 5, 6, 7, 8, 9, 10, 11, 17, 18, 19, 20], [0, 1, 2, 3, 4, 5, 6, 7, 8, 9, 10, 11, 12, 13, 14, 15, 16, 17, 18, 19, 20, 21], [0, 1, 2, 3, 4, 5, 6, 7, 8, 9, 10, 11, 12, 13, 14, 15, 16, 17, 18, 19, 20, 21, 22], [0, 1, 2, 3, 4, 5, 6, 7, 8, 9, 10, 11, 12, 13, 14, 15, 16, 17, 18, 19, 20, 21, 22, 23], [0, 1, 2, 3, 4, 5, 6, 7, 8, 9, 10, 11, 12, 13, 14, 15, 16, 17, 18, 19, 20, 21, 22, 23, 24], [0, 1, 2, 3, 4, 5, 6, 7, 8, 9, 10, 11, 12, 13, 14, 15, 16, 17, 18, 19, 20, 21, 22, 23, 24, 25], [0, 1, 2, 3, 4, 5, 6, 7, 8, 9, 10, 11, 12, 13, 14, 15, 16, 17, 18, 19, 20, 21, 22, 23, 24, 25], [0, 1, 2, 3, 4, 5, 6, 7, 8, 9, 10, 11, 12, 13, 14, 15, 16, 17, 18, 19, 20, 21, 22, 23, 24, 25, 26, 27], [0, 1, 2, 3, 4, 5, 6, 7, 8, 9, 10, 11, 12, 13, 14, 15, 16, 17, 18, 19, 20, 21, 22, 23, 24, 25, 26, 27, 28], [0, 1, 2, 3, 4, 5, 6, 7, 8, 9, 10, 11, 12, 13, 14, 15, 16, 17, 18, 19, 20, 21, 22, 23, 24, 25, 26, 27, 28, 29], [0, 1, 2, 3, 4, 5, 6, 7, 8, 9, 10, 11, 12, 13, 14, 15, 16, 17, 18, 19, 20, 21, 22, 23, 24, 25, 26, 27, 28, 29], [0, 1, 2, 3, 4, 5, 6, 7, 8, 9, 10, 11, 12, 13, 14, 15, 16, 17, 18, 19, 20, 21, 22, 23, 24, 25, 26, 27, 28, 29, 30, 31], [0, 1, 2, 3, 4, 5, 6, 7, 8, 9, 10, 11, 12, 13, 14, 15, 16, 17, 18, 19, 20, 21, 22, 23, 24, 25, 26, 27, 28, 29, 30, 31, 32], [0, 1, 2, 3, 4, 5, 6, 7, 8, 9, 10, 11, 12, 13, 14, 15, 16, 17, 18, 19, 20, 21, 22, 23, 24, 25, 26, 27, 28, 29, 30, 31, 32, 33], [0, 1, 2, 3, 4, 5, 6, 7, 8, 9, 10, 11, 12, 13, 14, 15, 16, 17, 18, 19, 20, 21, 22, 23, 24, 25, 26, 27, 28, 29], [0, 1, 2, 3, 4, 5, 6, 7, 8, 9, 10, 11, 12, 13, 14, 15, 16, 17, 18, 19, 20, 21, 22, 23, 24, 25, 26, 27, 28, 29], [0, 1, 2, 3, 4, 5, 6, 7, 8, 9, 10, 11, 12, 13, 14, 15, 16, 17, 18, 19, 20, 21, 22, 23, 24, 25, 26, 27, 28, 29, 35, 36], [0, 1, 2, 3, 4, 5, 6, 7, 8, 9, 10, 11, 12, 13, 14, 15, 16, 17, 18, 19, 20, 21, 22, 23, 24, 25, 26, 27, 28, 29, 35, 36, 37], [0, 1, 2, 3, 4, 5, 6, 7, 8, 9, 10, 11, 12, 13, 14, 15, 16, 17, 18, 19, 20, 21, 22, 23, 24, 25, 26, 27, 28, 29, 35, 36, 37, 38], [0, 1, 2, 3, 4, 5, 6, 7, 8, 9, 10, 11, 12, 13, 14, 15, 16, 17, 18, 19, 20, 21, 22, 23, 24, 25, 26, 27, 28, 29, 30, 31, 32, 33, 34, 35, 36, 37, 38, 39], [0, 1, 2, 3, 4, 5, 6, 7, 8, 9, 10, 11, 12, 13, 14, 15, 16, 17, 18, 19, 20, 21, 22, 23, 24, 25, 26, 27, 28, 29, 30, 31, 32, 33, 34, 35, 36, 37, 38, 39, 40], [0, 1, 2, 3, 4, 5, 6, 7, 8, 9, 10, 11, 12, 13, 14, 15, 16, 17, 18, 19, 20, 21, 22, 23, 24, 25, 26, 27, 28, 29, 30, 31, 32, 33, 34, 35, 36, 37, 38, 39, 40, 41], [0, 1, 2, 3, 4, 5, 6, 7, 8, 9, 10, 11, 12, 13, 14, 15, 16, 17, 18, 19, 20, 21, 22, 23, 24, 25, 26, 27, 28, 29, 30, 31, 32, 33, 34, 35, 36, 37, 38, 39, 40, 41, 42]] (ol [0, 1, 2, 3, 4, 5, 6, 7, 8, 9, 10, 11, 12, 13, 14, 15, 16, 17, 18, 19, 20, 21, 22, 23, 24, 25, 26, 27, 28, 29, 30, 31, 32, 33, 34, 35, 36, 37, 38, 39, 40, 41, 42, 43] .nil)) .none) .none)) .none))))) .none)))))))
theorem tenonlaw06_VariantWalks_call {x0 : Array Value} {x1 : Int} {R : Value → World → Prop} {w : World} (h : tenonlaw06_VariantWalks x0 x1 R w) : call Try.prog 7 #[.agg x0, .int .i64 x1] w R :=
  call_of_fnW plain mixed Try.func7 tenonlaw06_VariantWalks_ann (Eq.mp (by kernel_rfl : tenonlaw06_VariantWalks x0 x1 R w = fnW Try.prog Try.f7 tenonlaw06_VariantWalks_ann #[.agg x0, .int .i64 x1] R w) h)

def tenonlaw06_VariantSame (x0 : Array Value) (x1 : Array Value) (R : Value → World → Prop) (w : World) : Prop :=
  new x0 24 w fun k1 w1 =>
  new x1 24 w1 fun k2 w2 =>
  ldA (⟨k1, 0, none⟩ : Addr) 4 w2 fun g3 =>
  ldA (⟨k2, 0, none⟩ : Addr) 4 w2 fun g4 =>
  call Try.prog 25 #[.agg g3, .agg g4] w2 fun v5 w3 =>
  asB v5 fun b6 =>
  ldA (⟨k1, 0, none⟩ : Addr) 4 w3 fun g7 =>
  ldA (⟨k2, 0, none⟩ : Addr) 4 w3 fun g8 =>
  call Try.prog 18 #[.agg g7, .agg g8] w3 fun v9 w4 =>
  asB v9 fun b10 =>
  br (!(b6 == b10)) (
  R (.bool false) w4) (
  ldA (⟨k1, 0, none⟩ : Addr) 4 w4 fun g11 =>
  ldA (⟨k1, 0, none⟩ : Addr) 4 w4 fun g12 =>
  call Try.prog 25 #[.agg g11, .agg g12] w4 fun v13 w5 =>
  asB v13 fun b14 =>
  br (!b14) (
  R (.bool false) w5) (
  ldA (⟨k1, 0, none⟩ : Addr) 4 w5 fun g15 =>
  call Try.prog 12 #[.agg g15] w5 fun v16 w6 =>
  ∃ (p17 : Option Addr) (l17 c17 : Nat) (n18 : Int),
  v16 = .tuple #[.slice p17 l17 c17, .int .i64 n18] ∧
  ldA (⟨k2, 0, none⟩ : Addr) 4 w6 fun g19 =>
  call Try.prog 12 #[.agg g19] w6 fun v20 w7 =>
  ∃ (p21 : Option Addr) (l21 c21 : Nat) (n22 : Int),
  v20 = .tuple #[.slice p21 l21 c21, .int .i64 n22] ∧
  br ((n18 : Int) != 0) (
  call Try.prog 11 #[] w7 fun v23 w8 =>
  asB v23 fun b24 =>
  R (.bool b24) w8) (
  br ((n22 : Int) != 0) (
  call Try.prog 11 #[] w7 fun v25 w9 =>
  asB v25 fun b26 =>
  R (.bool b26) w9) (
  call Try.prog 13 #[.slice p17 l17 c17, .slice p21 l21 c21] w7 fun v27 w10 =>
  asB v27 fun b28 =>
  br (b6 == b28) (
  call Try.prog 11 #[] w10 fun v29 w11 =>
  asB v29 fun b30 =>
  R (.bool b30) w11) (
  R (.bool false) w10)))))
@[irreducible] def tenonlaw06_VariantSame_ann : Ann := .none
theorem tenonlaw06_VariantSame_call {x0 : Array Value} {x1 : Array Value} {R : Value → World → Prop} {w : World} (h : tenonlaw06_VariantSame x0 x1 R w) : call Try.prog 8 #[.agg x0, .agg x1] w R :=
  call_of_fnW plain mixed Try.func8 tenonlaw06_VariantSame_ann (Eq.mp (by kernel_rfl : tenonlaw06_VariantSame x0 x1 R w = fnW Try.prog Try.f8 tenonlaw06_VariantSame_ann #[.agg x0, .agg x1] R w) h)

def variant_Check (x0 : Array Value) (R : Value → World → Prop) (w : World) : Prop :=
  new x0 24 w fun k1 w1 =>
  new #[.int .i64 0] 25 w1 fun k2 w2 =>
  ldA (⟨k1, 0, none⟩ : Addr) 4 w2 fun g3 =>
  call Try.prog 26 #[.agg g3] w2 fun v4 w3 =>
  asF v4 fun f5 q5 t5 =>
  rangeW Try.prog (.func f5 q5 t5) 2 (fun xs6 N7 J8 T9 w4 => ∃ (n10 : Int) (g11 : Array Value), xs6 = #[.int .i64 n10, .agg g11] ∧
  new #[.int .i64 0, .int .i64 0, .string ByteArray.empty, .slice none 0 0] 24 w4 fun k12 w5 =>
  stA Try.prog (⟨k12, 0, none⟩ : Addr) 4 g11 w5 fun w6 =>
  T9 w6 fun w7 =>
  br (decide ((n10 : Int) ≥ 8)) (
  st (⟨k2, 0, none⟩ : Addr) (.int .i64 16) w7 fun w8 =>
  J8 .ret w8) (
  ldA (⟨k12, 0, none⟩ : Addr) 4 w7 fun g13 =>
  call Try.prog 27 #[.agg g13] w7 fun v14 w9 =>
  asB v14 fun b15 =>
  br (!b15) (
  st (⟨k2, 0, none⟩ : Addr) (.int .i64 5) w9 fun w10 =>
  J8 .ret w10) (
  ldT ((⟨k12, 0, none⟩ : Addr).add 2) w9 fun s16 =>
  br (decide ((s16.size : Int) > 256)) (
  st (⟨k2, 0, none⟩ : Addr) (.int .i64 20) w9 fun w11 =>
  J8 .ret w11) (
  ldS ((⟨k12, 0, none⟩ : Addr).add 3) w9 fun p17 l17 c17 =>
  br (decide ((l17 : Int) > 64)) (
  st (⟨k2, 0, none⟩ : Addr) (.int .i64 20) w9 fun w12 =>
  J8 .ret w12) (
  N7 w9))))) (fun D18 w13 =>
  st (⟨k2, 0, none⟩ : Addr) (.int .i64 0) w13 fun w14 =>
  shutD D18 w14 fun w15 =>
  ldI .i64 (⟨k2, 0, none⟩ : Addr) w15 fun n19 =>
  R (.int .i64 n19) w15) (fun D20 c21 w16 => jmp c21 (
  shutD D20 w16 fun w17 =>
  ldI .i64 (⟨k2, 0, none⟩ : Addr) w17 fun n22 =>
  R (.int .i64 n22) w17) []) w3
@[irreducible] def variant_Check_ann : Ann := .seq .none (.seq (.seq .none (.one (.range [.int .i64, .agg] .none .none))) .none)
theorem variant_Check_call {x0 : Array Value} {R : Value → World → Prop} {w : World} (h : variant_Check x0 R w) : call Try.prog 9 #[.agg x0] w R :=
  call_of_fnW plain mixed Try.func9 variant_Check_ann (Eq.mp (by kernel_rfl : variant_Check x0 R w = fnW Try.prog Try.f9 variant_Check_ann #[.agg x0] R w) h)

def tenonref06_Check (x0 : Array Value) (x1 : Int) (R : Value → World → Prop) (w : World) : Prop :=
  new x0 24 w fun k1 w1 =>
  br (decide ((x1 : Int) > 8)) (
  R (.int .i64 16) w1) (
  ldA (⟨k1, 0, none⟩ : Addr) 4 w1 fun g2 =>
  call Try.prog 28 #[.agg g2] w1 fun v3 w2 =>
  asB v3 fun b4 =>
  br (!b4) (
  R (.int .i64 5) w2) (
  ldT ((⟨k1, 0, none⟩ : Addr).add 2) w2 fun s5 =>
  br (decide ((s5.size : Int) > 256)) (
  R (.int .i64 20) w2) (
  ldS ((⟨k1, 0, none⟩ : Addr).add 3) w2 fun p6 l6 c6 =>
  br (decide ((l6 : Int) > 64)) (
  R (.int .i64 20) w2) (
  ∃ I7 : Int → World → Nat → Prop, (∃ m8, I7 0 w2 m8) ∧
  ∀ (u9 : Nat → Value) (n10 : Int) (w3 : World) (m11 : Nat), I7 n10 w3 m11 →
  ldS ((⟨k1, 0, none⟩ : Addr).add 3) w3 fun p12 l12 c12 =>
  br (decide ((n10 : Int) < (l12 : Int))) (
  ldS ((⟨k1, 0, none⟩ : Addr).add 3) w3 fun p13 l13 c13 =>
  idx p13 l13 n10 4 fun a14 =>
  ldA a14 4 w3 fun g15 =>
  arith .i64 (x1 + 1) fun n16 =>
  call Try.prog 10 #[.agg g15, .int .i64 n16] w3 fun v17 w4 =>
  asI .i64 v17 fun n18 =>
  br ((n18 : Int) != 0) (
  R (.int .i64 n18) w4) (
  arith .i64 (n10 + 1) fun n19 =>
  ∃ m20, m20 < m11 ∧ I7 n19 w4 m20)) (
  R (.int .i64 0) w3)))))
@[irreducible] def tenonref06_Check_ann : Ann := .seq .none (.seq .none (.seq .none (.seq .none (.seq (.seq .none (.one (.loop [(5, .int .i64)] .none))) .none))))
theorem tenonref06_Check_call {x0 : Array Value} {x1 : Int} {R : Value → World → Prop} {w : World} (h : tenonref06_Check x0 x1 R w) : call Try.prog 10 #[.agg x0, .int .i64 x1] w R :=
  call_of_fnW plain mixed Try.func10 tenonref06_Check_ann (Eq.mp (by kernel_rfl : tenonref06_Check x0 x1 R w = fnW Try.prog Try.f10 tenonref06_Check_ann #[.agg x0, .int .i64 x1] R w) h)

def tenonlaw06_awake  (R : Value → World → Prop) (w : World) : Prop :=
  call Try.prog 29 #[] w fun v1 w1 =>
  asA v1 fun g2 =>
  call Try.prog 12 #[.agg g2] w1 fun v3 w2 =>
  ∃ (p4 : Option Addr) (l4 c4 : Nat) (n5 : Int),
  v3 = .tuple #[.slice p4 l4 c4, .int .i64 n5] ∧
  call Try.prog 16 #[.slice p4 l4 c4] w2 fun v6 w3 =>
  ∃ (g7 : Array Value) (n8 : Int),
  v6 = .tuple #[.agg g7, .int .i64 n8] ∧
  new #[.int .i64 0, .int .i64 0, .string ByteArray.empty, .slice none 0 0] 24 w3 fun k9 w4 =>
  stA Try.prog (⟨k9, 0, none⟩ : Addr) 4 g7 w4 fun w5 =>
  br ((n5 : Int) == 0) (
  br ((n8 : Int) == 0) (
  br ((l4 : Int) == 17) (
  idx p4 l4 0 1 fun a10 =>
  ldI .u8 a10 w5.drew fun n11 =>
  br ((n11 : Int) == 6) (
  idx p4 l4 16 1 fun a12 =>
  ldI .u8 a12 w5.drew fun n13 =>
  br ((n13 : Int) == 97) (
  ldA (⟨k9, 0, none⟩ : Addr) 4 w5.drew fun g14 =>
  call Try.prog 29 #[] w5.drew fun v15 w6 =>
  asA v15 fun g16 =>
  keepS (cellsOf (⟨k9, 0, none⟩ : Addr) g14) w6 (
  call Try.prog 18 #[.agg g14, .agg g16] w6 fun v17 w7 =>
  asB v17 fun b18 =>
  R (.bool b18) w7)) (
  R (.bool false) w5.drew)) (
  R (.bool false) w5.drew)) (
  R (.bool false) w5.drew)) (
  R (.bool false) w5.drew)) (
  R (.bool false) w5.drew)
@[irreducible] def tenonlaw06_awake_ann : Ann := .seq .none (.seq .none (.seq .none (.seq (.draw [[], [0], [0, 1], [0, 1, 2], [0, 1, 2, 3], [0, 1, 2, 3, 4], [0, 1, 2, 3, 4, 5], [0, 1, 2, 3, 4, 5, 6], [0, 1, 2, 3, 4, 5, 6, 7], [0, 1, 2, 3, 4, 5, 6, 7, 8], [0, 1, 2, 3, 4, 5, 6, 7, 8, 9], [0, 1, 2, 3, 4, 5, 6, 7, 8, 9, 10], [0, 1, 2, 3, 4, 5, 6, 7, 8, 9, 10, 11], [0, 1, 2, 3, 4, 5, 6, 7, 8, 9, 10, 11, 12], [0, 1, 2, 3, 4, 5, 6, 7, 8, 9, 10, 11, 12, 13], [0, 1, 2, 3, 4, 5, 6, 7, 8, 9, 10, 11, 12, 13, 14], [0, 1, 2, 3, 4, 5, 6, 7, 8, 9, 10, 11, 12, 13, 14, 15], [0, 1, 2, 3, 4, 5, 6, 7, 8, 9, 10, 11, 12, 13, 14, 15, 16], [0, 1, 2, 3, 4, 5, 6, 7, 8, 9, 10, 11, 12, 13, 14, 15, 16, 17], [0, 1, 2, 3, 4, 5, 6, 7, 8, 9, 10, 11, 12, 13, 14, 15, 16, 17, 18], [0, 1, 2, 3, 4, 5, 6, 7, 8, 9, 10, 11, 12, 13, 14, 15, 16, 17, 18, 19], [0, 1, 2, 3, 4, 5, 6, 7, 8, 9, 10, 11, 12, 13, 14, 15, 16, 17, 18, 19, 20], [0, 1, 2, 3, 4, 5, 6, 7, 8, 9, 10, 11, 12, 13, 14, 15, 16, 17, 18, 19, 20, 21], [0, 1, 2, 3, 4, 5, 6, 7, 8, 9, 10, 11, 12, 13, 14, 15, 16, 17, 18, 19, 20, 21, 22], [0, 1, 2, 3, 4, 5, 6, 7, 8, 9, 10, 11, 12, 13, 14, 15, 16, 17, 18, 19, 20, 21, 22, 23], [0, 1, 2, 3, 4, 5, 6, 7, 8, 9, 10, 11, 12, 13, 14, 15, 16, 17, 18, 19, 20, 21, 22, 23], [0, 1, 2, 3, 4, 5, 6, 7, 8, 9, 10, 11, 12, 13, 14, 15, 16, 17, 18, 19, 20, 21, 22, 23, 24, 25], [0, 1, 2, 3, 4, 5, 6, 7, 8, 9, 10, 11, 12, 13, 14, 15, 16, 17, 18, 19, 20, 21, 22, 23, 24, 25, 26], [0, 1, 2, 3, 4, 5, 6, 7, 8, 9, 10, 11, 12, 13, 14, 15, 16, 17, 18, 19, 20, 21, 22, 23, 24, 25, 26, 27]] (ol [0, 1, 2, 3, 4, 5, 6, 7, 8, 9, 10, 11, 12, 13, 14, 15, 16, 17, 18, 19, 20, 21, 22, 23, 24, 25, 26, 27, 28] .nil)) .none)))
theorem tenonlaw06_awake_call  {R : Value → World → Prop} {w : World} (h : tenonlaw06_awake  R w) : call Try.prog 11 #[] w R :=
  call_of_fnW plain mixed Try.func11 tenonlaw06_awake_ann (Eq.mp (by kernel_rfl : tenonlaw06_awake  R w = fnW Try.prog Try.f11 tenonlaw06_awake_ann #[] R w) h)

def variant_Encode (x0 : Array Value) (R : Value → World → Prop) (w : World) : Prop :=
  new x0 24 w fun k1 w1 =>
  ldA (⟨k1, 0, none⟩ : Addr) 4 w1 fun g2 =>
  call Try.prog 9 #[.agg g2] w1 fun v3 w2 =>
  asI .i64 v3 fun n4 =>
  br ((n4 : Int) != 0) (
  R (.tuple #[.slice none 0 0, .int .i64 n4]) w2) (
  call Try.prog 30 #[] w2 fun v5 w3 =>
  asP v5 fun p6 =>
  new #[.pointer none] 57 w3 fun k7 w4 =>
  st (⟨k7, 0, none⟩ : Addr) (.pointer p6) w4 fun w5 =>
  ldA (⟨k1, 0, none⟩ : Addr) 4 w5 fun g8 =>
  call Try.prog 26 #[.agg g8] w5 fun v9 w6 =>
  asF v9 fun f10 q10 t10 =>
  rangeW Try.prog (.func f10 q10 t10) 2 (fun xs11 N12 J13 T14 w7 => ∃ (n15 : Int) (g16 : Array Value), xs11 = #[.int .i64 n15, .agg g16] ∧
  new #[.int .i64 0, .int .i64 0, .string ByteArray.empty, .slice none 0 0] 24 w7 fun k17 w8 =>
  stA Try.prog (⟨k17, 0, none⟩ : Addr) 4 g16 w8 fun w9 =>
  T14 w9 fun w10 =>
  ldP (⟨k7, 0, none⟩ : Addr) w10 fun p18 =>
  ldI .i64 ((⟨k17, 0, none⟩ : Addr).add 0) w10 fun n19 =>
  arith .u64 n19 fun n20 =>
  call Try.prog 31 #[.pointer p18, .int .u64 n20, .int .i64 1] w10 fun v21 w11 =>
  asI .i64 v21 fun n22 =>
  ldI .i64 ((⟨k17, 0, none⟩ : Addr).add 0) w11 fun n23 =>
  br ((n23 : Int) == 1) (
  ldP (⟨k7, 0, none⟩ : Addr) w11 fun p24 =>
  ldI .i64 ((⟨k17, 0, none⟩ : Addr).add 1) w11 fun n25 =>
  arith .u64 n25 fun n26 =>
  call Try.prog 31 #[.pointer p24, .int .u64 n26, .int .i64 1] w11 fun v27 w12 =>
  asI .i64 v27 fun n28 =>
  N12 w12) (
  br ((n23 : Int) == 2) (
  ldP (⟨k7, 0, none⟩ : Addr) w11 fun p29 =>
  ldI .i64 ((⟨k17, 0, none⟩ : Addr).add 1) w11 fun n30 =>
  arith .u32 n30 fun n31 =>
  arith .u64 n31 fun n32 =>
  call Try.prog 31 #[.pointer p29, .int .u64 n32, .int .i64 4] w11 fun v33 w13 =>
  asI .i64 v33 fun n34 =>
  N12 w13) (
  ∃ J35 : Bool → World → Prop, (
  br ((n23 : Int) == 3) (
  J35 ((n23 : Int) == 3) w11) (
  J35 ((n23 : Int) == 5) w11)) ∧
  ∀ (u36 : Nat → Value) (b37 : Bool) (w14 : World), J35 b37 w14 →
  br b37 (
  ldP (⟨k7, 0, none⟩ : Addr) w14 fun p38 =>
  ldI .i64 ((⟨k17, 0, none⟩ : Addr).add 1) w14 fun n39 =>
  arith .u64 n39 fun n40 =>
  call Try.prog 31 #[.pointer p38, .int .u64 n40, .int .i64 8] w14 fun v41 w15 =>
  asI .i64 v41 fun n42 =>
  N12 w15) (
  br ((n23 : Int) == 4) (
  ldP (⟨k7, 0, none⟩ : Addr) w14 fun p43 =>
  ldT ((⟨k17, 0, none⟩ : Addr).add 2) w14 fun s44 =>
  runsS Try.prog (convert 9 30 (.string s44)) w14 fun p45 l45 c45 w16 =>
  call Try.prog 32 #[.pointer p43, .slice p45 l45 c45] w16 fun v46 w17 =>
  asI .i64 v46 fun n47 =>
  N12 w17) (
  br ((n23 : Int) == 6) (
  ldP (⟨k7, 0, none⟩ : Addr) w14 fun p48 =>
  ldS ((⟨k17, 0, none⟩ : Addr).add 3) w14 fun p49 l49 c49 =>
  arith .u64 ((l49 : Int)) fun n50 =>
  call Try.prog 31 #[.pointer p48, .int .u64 n50, .int .i64 4] w14 fun v51 w18 =>
  asI .i64 v51 fun n52 =>
  N12 w18) (
  N12 w14)))))) (fun D53 w19 =>
  ldP (⟨k7, 0, none⟩ : Addr) w19 fun p54 =>
  call Try.prog 33 #[.pointer p54] w19 fun v55 w20 =>
  asS v55 fun p56 l56 c56 =>
  shutD D53 w20 fun w21 =>
  R (.tuple #[.slice p56 l56 c56, .int .i64 0]) w21) (fun D57 c58 w22 => jmp c58 (
  False) []) w6)
@[irreducible] def variant_Encode_ann : Ann := .seq .none (.seq .none (.seq .none (.seq (.seq .none (.one (.range [.int .i64, .agg] .none (.one (.seq .none (.seq .none (.one (.seq .none (.seq .none (.seq .none (.seq .none (.meet [(40, .bool)] .none .none)))))))))))) .none)))
theorem variant_Encode_call {x0 : Array Value} {R : Value → World → Prop} {w : World} (h : variant_Encode x0 R w) : call Try.prog 12 #[.agg x0] w R :=
  call_of_fnW plain mixed Try.func12 variant_Encode_ann (Eq.mp (by kernel_rfl : variant_Encode x0 R w = fnW Try.prog Try.f12 variant_Encode_ann #[.agg x0] R w) h)

def tenonref01_SameBytes (x0 : Option Addr) (y0 z0 : Nat) (x1 : Option Addr) (y1 z1 : Nat) (R : Value → World → Prop) (w : World) : Prop :=
  br ((y0 : Int) != (y1 : Int)) (
  R (.bool false) w) (
  ∃ I1 : Int → World → Nat → Prop, (∃ m2, I1 0 w m2) ∧
  ∀ (u3 : Nat → Value) (n4 : Int) (w1 : World) (m5 : Nat), I1 n4 w1 m5 →
  br (decide ((n4 : Int) < (y0 : Int))) (
  idx x0 y0 n4 1 fun a6 =>
  ldI .u8 a6 w1.drew fun n7 =>
  idx x1 y1 n4 1 fun a8 =>
  ldI .u8 a8 w1.drew fun n9 =>
  br ((n7 : Int) != n9) (
  R (.bool false) w1.drew) (
  arith .i64 (n4 + 1) fun n10 =>
  ∃ m11, m11 < m5 ∧ I1 n10 w1.drew m11)) (
  R (.bool true) w1))
@[irreducible] def tenonref01_SameBytes_ann : Ann := .seq .none (.seq .none (.seq (.seq .none (.one (.loop [(5, .int .i64)] (.seq .none (.seq (.one (.seq (.draw [[], [], [0, 1], [0, 1, 2], [], [], [4, 5], [4, 5, 6], [0, 1, 2, 3, 4, 5, 6, 7]] (ol [0, 1, 2, 3, 4, 5, 6, 7, 8] .nil)) .none)) .none))))) .none))
theorem tenonref01_SameBytes_call {x0 : Option Addr} {y0 z0 : Nat} {x1 : Option Addr} {y1 z1 : Nat} {R : Value → World → Prop} {w : World} (h : tenonref01_SameBytes x0 y0 z0 x1 y1 z1 R w) : call Try.prog 13 #[.slice x0 y0 z0, .slice x1 y1 z1] w R :=
  call_of_fnW plain mixed Try.func13 tenonref01_SameBytes_ann (Eq.mp (by kernel_rfl : tenonref01_SameBytes x0 y0 z0 x1 y1 z1 R w = fnW Try.prog Try.f13 tenonref01_SameBytes_ann #[.slice x0 y0 z0, .slice x1 y1 z1] R w) h)

def tenonref06_Encode (x0 : Option Addr) (y0 z0 : Nat) (x1 : Array Value) (R : Value → World → Prop) (w : World) : Prop :=
  new x1 24 w fun k1 w1 =>
  ldI .i64 ((⟨k1, 0, none⟩ : Addr).add 0) w1 fun n2 =>
  arith .u64 n2 fun n3 =>
  call Try.prog 34 #[.slice x0 y0 z0, .int .u64 n3, .int .i64 1] w1 fun v4 w2 =>
  asS v4 fun p5 l5 c5 =>
  ldI .i64 ((⟨k1, 0, none⟩ : Addr).add 0) w2 fun n6 =>
  br ((n6 : Int) == 1) (
  ldI .i64 ((⟨k1, 0, none⟩ : Addr).add 1) w2 fun n7 =>
  arith .u64 n7 fun n8 =>
  call Try.prog 34 #[.slice p5 l5 c5, .int .u64 n8, .int .i64 1] w2 fun v9 w3 =>
  asS v9 fun p10 l10 c10 =>
  R (.slice p10 l10 c10) w3) (
  br ((n6 : Int) == 2) (
  ldI .i64 ((⟨k1, 0, none⟩ : Addr).add 1) w2 fun n11 =>
  arith .u64 n11 fun n12 =>
  rem n12 4294967296 fun n13 =>
  call Try.prog 34 #[.slice p5 l5 c5, .int .u64 n13, .int .i64 4] w2 fun v14 w4 =>
  asS v14 fun p15 l15 c15 =>
  R (.slice p15 l15 c15) w4) (
  ∃ J16 : Bool → World → Prop, (
  br ((n6 : Int) == 3) (
  J16 ((n6 : Int) == 3) w2) (
  J16 ((n6 : Int) == 5) w2)) ∧
  ∀ (u17 : Nat → Value) (b18 : Bool) (w5 : World), J16 b18 w5 →
  br b18 (
  ldI .i64 ((⟨k1, 0, none⟩ : Addr).add 1) w5 fun n19 =>
  arith .u64 n19 fun n20 =>
  call Try.prog 34 #[.slice p5 l5 c5, .int .u64 n20, .int .i64 8] w5 fun v21 w6 =>
  asS v21 fun p22 l22 c22 =>
  R (.slice p22 l22 c22) w6) (
  br ((n6 : Int) == 4) (
  ldT ((⟨k1, 0, none⟩ : Addr).add 2) w5 fun s23 =>
  runsS Try.prog (convert 9 30 (.string s23)) w5 fun p24 l24 c24 w7 =>
  call Try.prog 35 #[.slice p5 l5 c5, .slice p24 l24 c24] w7 fun v25 w8 =>
  asS v25 fun p26 l26 c26 =>
  R (.slice p26 l26 c26) w8) (
  br ((n6 : Int) == 6) (
  ldS ((⟨k1, 0, none⟩ : Addr).add 3) w5 fun p27 l27 c27 =>
  arith .u64 ((l27 : Int)) fun n28 =>
  call Try.prog 34 #[.slice p5 l5 c5, .int .u64 n28, .int .i64 4] w5 fun v29 w9 =>
  asS v29 fun p30 l30 c30 =>
  ∃ I31 : Option Addr → Nat → Nat → Int → World → Nat → Prop, (∃ m32, I31 p30 l30 c30 0 w9 m32) ∧
  ∀ (u33 : Nat → Value) (p34 : Option Addr) (l34 c34 : Nat) (n35 : Int) (w10 : World) (m36 : Nat), I31 p34 l34 c34 n35 w10 m36 →
  ldS ((⟨k1, 0, none⟩ : Addr).add 3) w10 fun p37 l37 c37 =>
  br (decide ((n35 : Int) < (l37 : Int))) (
  ldS ((⟨k1, 0, none⟩ : Addr).add 3) w10 fun p38 l38 c38 =>
  idx p38 l38 n35 4 fun a39 =>
  ldA a39 4 w10 fun g40 =>
  call Try.prog 14 #[.slice p34 l34 c34, .agg g40] w10 fun v41 w11 =>
  asS v41 fun p42 l42 c42 =>
  arith .i64 (n35 + 1) fun n43 =>
  ∃ m44, m44 < m36 ∧ I31 p42 l42 c42 n43 w11 m44) (
  R (.slice p34 l34 c34) w10)) (
  R (.slice p5 l5 c5) w5)))))
@[irreducible] def tenonref06_Encode_ann : Ann := .seq .none (.seq .none (.seq (.seq .none (.one (.seq .none (.seq .none (.seq .none (.seq .none (.meet [(29, .bool)] .none (.seq .none (.seq .none (.seq .none (.seq .none (.seq (.seq .none (.seq .none (.one (.loop [(5, .slice), (6, .int .i64)] .none)))) .none)))))))))))) .none))
theorem tenonref06_Encode_call {x0 : Option Addr} {y0 z0 : Nat} {x1 : Array Value} {R : Value → World → Prop} {w : World} (h : tenonref06_Encode x0 y0 z0 x1 R w) : call Try.prog 14 #[.slice x0 y0 z0, .agg x1] w R :=
  call_of_fnW plain mixed Try.func14 tenonref06_Encode_ann (Eq.mp (by kernel_rfl : tenonref06_Encode x0 y0 z0 x1 R w = fnW Try.prog Try.f14 tenonref06_Encode_ann #[.slice x0 y0 z0, .agg x1] R w) h)

def tenonref01_Lent (x0 : Option Addr) (y0 z0 : Nat) (R : Value → World → Prop) (w : World) : Prop :=
  arith .i64 ((y0 : Int) + 4) fun n1 =>
  runsS Try.prog (Instr.makeSlice 30 (.int .i64 0) (.int .i64 n1)) w fun p2 l2 c2 w1 =>
  ∃ I3 : Option Addr → Nat → Nat → Int → World → Nat → Prop, (∃ m4, I3 p2 l2 c2 0 w1 m4) ∧
  ∀ (u5 : Nat → Value) (p6 : Option Addr) (l6 c6 : Nat) (n7 : Int) (w2 : World) (m8 : Nat), I3 p6 l6 c6 n7 w2 m8 →
  br (decide ((n7 : Int) < (y0 : Int))) (
  idx x0 y0 n7 1 fun a9 =>
  ldI .u8 a9 w2 fun n10 =>
  new #[.int .u8 n10] 5 w2 fun k11 w3 =>
  runsS Try.prog (Builtin.append_ #[30, 30] 30 #[.slice p6 l6 c6, .slice (some (⟨k11, 0, none⟩ : Addr)) 1 1]) w3 fun p12 l12 c12 w4 =>
  arith .i64 (n7 + 1) fun n13 =>
  ∃ m14, m14 < m8 ∧ I3 p12 l12 c12 n13 w4 m14) (
  new #[.int .u8 90, .int .u8 91, .int .u8 92, .int .u8 93] 5 w2 fun k15 w5 =>
  runsS Try.prog (Builtin.append_ #[30, 30] 30 #[.slice p6 l6 c6, .slice (some (⟨k15, 0, none⟩ : Addr)) 4 4]) w5 fun p16 l16 c16 w6 =>
  slc p16 c16 1 0 ((y0 : Int)) fun p17 l17 c17 =>
  R (.slice p17 l17 c17) w6)
@[irreducible] def tenonref01_Lent_ann : Ann := .seq .none (.seq .none (.seq (.seq .none (.one (.loop [(3, .slice), (4, .int .i64)] .none))) .none))
theorem tenonref01_Lent_call {x0 : Option Addr} {y0 z0 : Nat} {R : Value → World → Prop} {w : World} (h : tenonref01_Lent x0 y0 z0 R w) : call Try.prog 15 #[.slice x0 y0 z0] w R :=
  call_of_fnW plain mixed Try.func15 tenonref01_Lent_ann (Eq.mp (by kernel_rfl : tenonref01_Lent x0 y0 z0 R w = fnW Try.prog Try.f15 tenonref01_Lent_ann #[.slice x0 y0 z0] R w) h)

def variant_Decode (x0 : Option Addr) (y0 z0 : Nat) (R : Value → World → Prop) (w : World) : Prop :=
  new #[.int .i64 0, .int .i64 0, .string ByteArray.empty, .slice none 0 0] 24 w fun k1 w1 =>
  call Try.prog 36 #[.slice x0 y0 z0] w1 fun v2 w2 =>
  asP v2 fun p3 =>
  call Try.prog 37 #[.pointer p3, .int .i64 0] w2 fun v4 w3 =>
  ∃ (g5 : Array Value) (n6 : Int),
  v4 = .tuple #[.agg g5, .int .i64 n6] ∧
  new #[.int .i64 0, .int .i64 0, .string ByteArray.empty, .slice none 0 0] 24 w3 fun k7 w4 =>
  stA Try.prog (⟨k7, 0, none⟩ : Addr) 4 g5 w4 fun w5 =>
  br ((n6 : Int) == 0) (
  call Try.prog 38 #[.pointer p3] w5 fun v8 w6 =>
  asI .i64 v8 fun n9 =>
  br ((n9 : Int) != 0) (
  stA Try.prog (⟨k1, 0, none⟩ : Addr) 4 #[.int .i64 0, .int .i64 0, .string ByteArray.empty, .slice none 0 0] w6 fun w7 =>
  ldA (⟨k1, 0, none⟩ : Addr) 4 w7 fun g10 =>
  R (.tuple #[.agg g10, .int .i64 n9]) w7) (
  ldA (⟨k7, 0, none⟩ : Addr) 4 w6 fun g11 =>
  stA Try.prog (⟨k1, 0, none⟩ : Addr) 4 g11 w6 fun w8 =>
  ldA (⟨k1, 0, none⟩ : Addr) 4 w8 fun g12 =>
  R (.tuple #[.agg g12, .int .i64 0]) w8)) (
  br ((n6 : Int) != 0) (
  stA Try.prog (⟨k1, 0, none⟩ : Addr) 4 #[.int .i64 0, .int .i64 0, .string ByteArray.empty, .slice none 0 0] w5 fun w9 =>
  ldA (⟨k1, 0, none⟩ : Addr) 4 w9 fun g13 =>
  R (.tuple #[.agg g13, .int .i64 n6]) w9) (
  ldA (⟨k7, 0, none⟩ : Addr) 4 w5 fun g14 =>
  stA Try.prog (⟨k1, 0, none⟩ : Addr) 4 g14 w5 fun w10 =>
  ldA (⟨k1, 0, none⟩ : Addr) 4 w10 fun g15 =>
  R (.tuple #[.agg g15, .int .i64 0]) w10))
@[irreducible] def variant_Decode_ann : Ann := .none
theorem variant_Decode_call {x0 : Option Addr} {y0 z0 : Nat} {R : Value → World → Prop} {w : World} (h : variant_Decode x0 y0 z0 R w) : call Try.prog 16 #[.slice x0 y0 z0] w R :=
  call_of_fnW plain mixed Try.func16 variant_Decode_ann (Eq.mp (by kernel_rfl : variant_Decode x0 y0 z0 R w = fnW Try.prog Try.f16 variant_Decode_ann #[.slice x0 y0 z0] R w) h)

def tenonref06_Decode (x0 : Option Addr) (y0 z0 : Nat) (R : Value → World → Prop) (w : World) : Prop :=
  new #[.int .i64 0, .int .i64 0, .string ByteArray.empty, .slice none 0 0] 24 w fun k1 w1 =>
  call Try.prog 39 #[.slice x0 y0 z0, .int .i64 0, .int .i64 1] w1 fun v2 w2 =>
  ∃ (g3 : Array Value) (n4 : Int) (n5 : Int),
  v2 = .tuple #[.agg g3, .int .i64 n4, .int .i64 n5] ∧
  new #[.int .i64 0, .int .i64 0, .string ByteArray.empty, .slice none 0 0] 24 w2 fun k6 w3 =>
  stA Try.prog (⟨k6, 0, none⟩ : Addr) 4 g3 w3 fun w4 =>
  br ((n5 : Int) == 0) (
  br (decide ((n4 : Int) < (y0 : Int))) (
  br ((5 : Int) != 0) (
  stA Try.prog (⟨k1, 0, none⟩ : Addr) 4 #[.int .i64 0, .int .i64 0, .string ByteArray.empty, .slice none 0 0] w4 fun w5 =>
  ldA (⟨k1, 0, none⟩ : Addr) 4 w5 fun g7 =>
  R (.tuple #[.agg g7, .int .i64 5]) w5) (
  ldA (⟨k6, 0, none⟩ : Addr) 4 w4 fun g8 =>
  stA Try.prog (⟨k1, 0, none⟩ : Addr) 4 g8 w4 fun w6 =>
  ldA (⟨k1, 0, none⟩ : Addr) 4 w6 fun g9 =>
  R (.tuple #[.agg g9, .int .i64 0]) w6)) (
  br ((n5 : Int) != 0) (
  stA Try.prog (⟨k1, 0, none⟩ : Addr) 4 #[.int .i64 0, .int .i64 0, .string ByteArray.empty, .slice none 0 0] w4 fun w7 =>
  ldA (⟨k1, 0, none⟩ : Addr) 4 w7 fun g10 =>
  R (.tuple #[.agg g10, .int .i64 n5]) w7) (
  ldA (⟨k6, 0, none⟩ : Addr) 4 w4 fun g11 =>
  stA Try.prog (⟨k1, 0, none⟩ : Addr) 4 g11 w4 fun w8 =>
  ldA (⟨k1, 0, none⟩ : Addr) 4 w8 fun g12 =>
  R (.tuple #[.agg g12, .int .i64 0]) w8))) (
  br ((n5 : Int) != 0) (
  stA Try.prog (⟨k1, 0, none⟩ : Addr) 4 #[.int .i64 0, .int .i64 0, .string ByteArray.empty, .slice none 0 0] w4 fun w9 =>
  ldA (⟨k1, 0, none⟩ : Addr) 4 w9 fun g13 =>
  R (.tuple #[.agg g13, .int .i64 n5]) w9) (
  ldA (⟨k6, 0, none⟩ : Addr) 4 w4 fun g14 =>
  stA Try.prog (⟨k1, 0, none⟩ : Addr) 4 g14 w4 fun w10 =>
  ldA (⟨k1, 0, none⟩ : Addr) 4 w10 fun g15 =>
  R (.tuple #[.agg g15, .int .i64 0]) w10))
@[irreducible] def tenonref06_Decode_ann : Ann := .none
theorem tenonref06_Decode_call {x0 : Option Addr} {y0 z0 : Nat} {R : Value → World → Prop} {w : World} (h : tenonref06_Decode x0 y0 z0 R w) : call Try.prog 17 #[.slice x0 y0 z0] w R :=
  call_of_fnW plain mixed Try.func17 tenonref06_Decode_ann (Eq.mp (by kernel_rfl : tenonref06_Decode x0 y0 z0 R w = fnW Try.prog Try.f17 tenonref06_Decode_ann #[.slice x0 y0 z0] R w) h)

def tenonref06_Same (x0 : Array Value) (x1 : Array Value) (R : Value → World → Prop) (w : World) : Prop :=
  new x0 24 w fun k1 w1 =>
  new x1 24 w1 fun k2 w2 =>
  ldI .i64 ((⟨k1, 0, none⟩ : Addr).add 0) w2 fun n3 =>
  ldI .i64 ((⟨k2, 0, none⟩ : Addr).add 0) w2 fun n4 =>
  br ((n3 : Int) != n4) (
  R (.bool false) w2) (
  ldI .i64 ((⟨k1, 0, none⟩ : Addr).add 1) w2 fun n5 =>
  ldI .i64 ((⟨k2, 0, none⟩ : Addr).add 1) w2 fun n6 =>
  br ((n5 : Int) != n6) (
  R (.bool false) w2) (
  ldT ((⟨k1, 0, none⟩ : Addr).add 2) w2 fun s7 =>
  ldT ((⟨k2, 0, none⟩ : Addr).add 2) w2 fun s8 =>
  br (!(s7.toList == s8.toList)) (
  R (.bool false) w2) (
  ldS ((⟨k1, 0, none⟩ : Addr).add 3) w2 fun p9 l9 c9 =>
  ldS ((⟨k2, 0, none⟩ : Addr).add 3) w2 fun p10 l10 c10 =>
  br ((l9 : Int) != (l10 : Int)) (
  R (.bool false) w2) (
  ∃ I11 : Int → World → Nat → Prop, (∃ m12, I11 0 w2 m12) ∧
  ∀ (u13 : Nat → Value) (n14 : Int) (w3 : World) (m15 : Nat), I11 n14 w3 m15 →
  ldS ((⟨k1, 0, none⟩ : Addr).add 3) w3 fun p16 l16 c16 =>
  br (decide ((n14 : Int) < (l16 : Int))) (
  ldS ((⟨k1, 0, none⟩ : Addr).add 3) w3.drew fun p17 l17 c17 =>
  idx p17 l17 n14 4 fun a18 =>
  ldA a18 4 w3.drew fun g19 =>
  ldS ((⟨k2, 0, none⟩ : Addr).add 3) w3.drew fun p20 l20 c20 =>
  idx p20 l20 n14 4 fun a21 =>
  ldA a21 4 w3.drew fun g22 =>
  call Try.prog 18 #[.agg g19, .agg g22] w3.drew fun v23 w4 =>
  asB v23 fun b24 =>
  br (!b24) (
  R (.bool false) w4) (
  arith .i64 (n14 + 1) fun n25 =>
  ∃ m26, m26 < m15 ∧ I11 n25 w4 m26)) (
  R (.bool true) w3)))))
@[irreducible] def tenonref06_Same_ann : Ann := .seq .none (.seq .none (.seq (.seq .none (.one (.loop [(5, .int .i64)] (.seq .none (.seq (.one (.seq (.draw [[], [0], [], [0, 1, 2], [0, 1, 2, 3], [], [5], [], [5, 6, 7], [5, 6, 7, 8], [0, 1, 2, 3, 4, 5, 6, 7, 8, 9], [0, 1, 2, 3, 4, 5, 6, 7, 8, 9, 10]] (ol [0, 1, 2, 3, 4, 5, 6, 7, 8, 9, 10, 11] .nil)) .none)) .none))))) .none))
theorem tenonref06_Same_call {x0 : Array Value} {x1 : Array Value} {R : Value → World → Prop} {w : World} (h : tenonref06_Same x0 x1 R w) : call Try.prog 18 #[.agg x0, .agg x1] w R :=
  call_of_fnW plain mixed Try.func18 tenonref06_Same_ann (Eq.mp (by kernel_rfl : tenonref06_Same x0 x1 R w = fnW Try.prog Try.f18 tenonref06_Same_ann #[.agg x0, .agg x1] R w) h)

def tenonref01_Kept (x0 : Option Addr) (y0 z0 : Nat) (x1 : Option Addr) (y1 z1 : Nat) (R : Value → World → Prop) (w : World) : Prop :=
  arith .i64 ((y1 : Int) + 4) fun n1 =>
  slc x0 z0 1 0 n1 fun p2 l2 c2 =>
  ∃ I3 : Int → World → Nat → Prop, (∃ m4, I3 0 w m4) ∧
  ∀ (u5 : Nat → Value) (n6 : Int) (w1 : World) (m7 : Nat), I3 n6 w1 m7 →
  br (decide ((n6 : Int) < 4)) (
  arith .i64 ((y1 : Int) + n6) fun n8 =>
  idx p2 l2 n8 1 fun a9 =>
  ldI .u8 a9 w1 fun n10 =>
  arith .i64 (90 + n6) fun n11 =>
  arith .u8 n11 fun n12 =>
  br ((n10 : Int) != n12) (
  R (.bool false) w1) (
  arith .i64 (n6 + 1) fun n13 =>
  ∃ m14, m14 < m7 ∧ I3 n13 w1 m14)) (
  call Try.prog 13 #[.slice x0 y0 z0, .slice x1 y1 z1] w1 fun v15 w2 =>
  asB v15 fun b16 =>
  R (.bool b16) w2)
@[irreducible] def tenonref01_Kept_ann : Ann := .seq .none (.seq .none (.seq (.seq .none (.one (.loop [(6, .int .i64)] .none))) .none))
theorem tenonref01_Kept_call {x0 : Option Addr} {y0 z0 : Nat} {x1 : Option Addr} {y1 z1 : Nat} {R : Value → World → Prop} {w : World} (h : tenonref01_Kept x0 y0 z0 x1 y1 z1 R w) : call Try.prog 19 #[.slice x0 y0 z0, .slice x1 y1 z1] w R :=
  call_of_fnW plain mixed Try.func19 tenonref01_Kept_ann (Eq.mp (by kernel_rfl : tenonref01_Kept x0 y0 z0 x1 y1 z1 R w = fnW Try.prog Try.f19 tenonref01_Kept_ann #[.slice x0 y0 z0, .slice x1 y1 z1] R w) h)

def tenonref06_Walk (x0 : Array Value) (x1 : Int) (R : Value → World → Prop) (w : World) : Prop :=
  new x0 24 w fun k1 w1 =>
  ldA (⟨k1, 0, none⟩ : Addr) 4 w1 fun g2 =>
  (g2 : Array Value).size = 4 ∧
  (((#[] ++ #[.int .i64 x1]) ++ g2) : Array Value).size = 5 ∧
  new ((#[] ++ #[.int .i64 x1]) ++ g2) 48 w1 fun k3 w2 =>
  ∃ I4 : Option Addr → Nat → Nat → Int → World → Nat → Prop, (∃ m5, I4 (some (⟨k3, 0, none⟩ : Addr)) 1 1 0 w2 m5) ∧
  ∀ (u6 : Nat → Value) (p7 : Option Addr) (l7 c7 : Nat) (n8 : Int) (w3 : World) (m9 : Nat), I4 p7 l7 c7 n8 w3 m9 →
  ldS ((⟨k1, 0, none⟩ : Addr).add 3) w3 fun p10 l10 c10 =>
  br (decide ((n8 : Int) < (l10 : Int))) (
  ldS ((⟨k1, 0, none⟩ : Addr).add 3) w3 fun p11 l11 c11 =>
  idx p11 l11 n8 4 fun a12 =>
  ldA a12 4 w3 fun g13 =>
  arith .i64 (x1 + 1) fun n14 =>
  call Try.prog 20 #[.agg g13, .int .i64 n14] w3 fun v15 w4 =>
  asS v15 fun p16 l16 c16 =>
  runsS Try.prog (Builtin.append_ #[43, 43] 43 #[.slice p7 l7 c7, .slice p16 l16 c16]) w4 fun p17 l17 c17 w5 =>
  arith .i64 (n8 + 1) fun n18 =>
  ∃ m19, m19 < m9 ∧ I4 p17 l17 c17 n18 w5 m19) (
  R (.slice p7 l7 c7) w3)
@[irreducible] def tenonref06_Walk_ann : Ann := .seq .none (.seq .none (.seq (.seq .none (.one (.loop [(5, .slice), (6, .int .i64)] .none))) .none))
theorem tenonref06_Walk_call {x0 : Array Value} {x1 : Int} {R : Value → World → Prop} {w : World} (h : tenonref06_Walk x0 x1 R w) : call Try.prog 20 #[.agg x0, .int .i64 x1] w R :=
  call_of_fnW plain mixed Try.func20 tenonref06_Walk_ann (Eq.mp (by kernel_rfl : tenonref06_Walk x0 x1 R w = fnW Try.prog Try.f20 tenonref06_Walk_ann #[.agg x0, .int .i64 x1] R w) h)

def tenonref01_Pick (x0 : Int) (x1 : Int) (R : Value → World → Prop) (w : World) : Prop :=
  br (decide ((x1 : Int) < 1)) (
  R (.int .i64 0) w) (
  rem x0 x1 fun n1 =>
  br (decide ((n1 : Int) < 0)) (
  arith .i64 (n1 + x1) fun n2 =>
  R (.int .i64 n2) w) (
  R (.int .i64 n1) w))
@[irreducible] def tenonref01_Pick_ann : Ann := .none
theorem tenonref01_Pick_call {x0 : Int} {x1 : Int} {R : Value → World → Prop} {w : World} (h : tenonref01_Pick x0 x1 R w) : call Try.prog 21 #[.int .i64 x0, .int .i64 x1] w R :=
  call_of_fnW plain mixed Try.func21 tenonref01_Pick_ann (Eq.mp (by kernel_rfl : tenonref01_Pick x0 x1 R w = fnW Try.prog Try.f21 tenonref01_Pick_ann #[.int .i64 x0, .int .i64 x1] R w) h)

def tenonlaw06_walked (x0 : Array Value) (x1 : Int) (R : Value → World → Prop) (w : World) : Prop :=
  new x0 24 w fun k1 w1 =>
  new #[.int .i64 x1] 3 w1 fun k2 w2 =>
  new #[.slice none 0 0] 43 w2 fun k3 w3 =>
  ldA (⟨k1, 0, none⟩ : Addr) 4 w3 fun g4 =>
  call Try.prog 26 #[.agg g4] w3 fun v5 w4 =>
  asF v5 fun f6 q6 t6 =>
  rangeW Try.prog (.func f6 q6 t6) 2 (fun xs7 N8 J9 T10 w5 => ∃ (n11 : Int) (g12 : Array Value), xs7 = #[.int .i64 n11, .agg g12] ∧
  new #[.int .i64 0, .int .i64 0, .string ByteArray.empty, .slice none 0 0] 24 w5 fun k13 w6 =>
  stA Try.prog (⟨k13, 0, none⟩ : Addr) 4 g12 w6 fun w7 =>
  T10 w7 fun w8 =>
  ldS (⟨k3, 0, none⟩ : Addr) w8 fun p14 l14 c14 =>
  ldI .i64 (⟨k2, 0, none⟩ : Addr) w8 fun n15 =>
  br (decide ((l14 : Int) ≥ n15)) (
  J9 (.exit 0) w8) (
  ldS (⟨k3, 0, none⟩ : Addr) w8 fun p16 l16 c16 =>
  ldA (⟨k13, 0, none⟩ : Addr) 4 w8 fun g17 =>
  (g17 : Array Value).size = 4 ∧
  (((#[] ++ #[.int .i64 n11]) ++ g17) : Array Value).size = 5 ∧
  new ((#[] ++ #[.int .i64 n11]) ++ g17) 48 w8 fun k18 w9 =>
  runsS Try.prog (Builtin.append_ #[43, 43] 43 #[.slice p16 l16 c16, .slice (some (⟨k18, 0, none⟩ : Addr)) 1 1]) w9 fun p19 l19 c19 w10 =>
  st (⟨k3, 0, none⟩ : Addr) (.slice p19 l19 c19) w10 fun w11 =>
  N8 w11)) (fun D20 w12 =>
  ldS (⟨k3, 0, none⟩ : Addr) w12 fun p21 l21 c21 =>
  shutD D20 w12 fun w13 =>
  R (.slice p21 l21 c21) w13) (fun D22 c23 w14 => jmp c23 (
  False) [(0, ldS (⟨k3, 0, none⟩ : Addr) w14 fun p24 l24 c24 =>
  shutD D22 w14 fun w15 =>
  R (.slice p24 l24 c24) w15)]) w4
@[irreducible] def tenonlaw06_walked_ann : Ann := .seq .none (.seq .none (.seq (.seq .none (.seq .none (.seq (.seq .none (.one (.range [.int .i64, .agg] .none .none))) .none))) .none))
theorem tenonlaw06_walked_call {x0 : Array Value} {x1 : Int} {R : Value → World → Prop} {w : World} (h : tenonlaw06_walked x0 x1 R w) : call Try.prog 22 #[.agg x0, .int .i64 x1] w R :=
  call_of_fnW plain mixed Try.func22 tenonlaw06_walked_ann (Eq.mp (by kernel_rfl : tenonlaw06_walked x0 x1 R w = fnW Try.prog Try.f22 tenonlaw06_walked_ann #[.agg x0, .int .i64 x1] R w) h)

def tenonref01_SameLongs (x0 : Option Addr) (y0 z0 : Nat) (x1 : Option Addr) (y1 z1 : Nat) (R : Value → World → Prop) (w : World) : Prop :=
  br ((y0 : Int) != (y1 : Int)) (
  R (.bool false) w) (
  ∃ I1 : Int → World → Nat → Prop, (∃ m2, I1 0 w m2) ∧
  ∀ (u3 : Nat → Value) (n4 : Int) (w1 : World) (m5 : Nat), I1 n4 w1 m5 →
  br (decide ((n4 : Int) < (y0 : Int))) (
  idx x0 y0 n4 1 fun a6 =>
  ldI .u64 a6 w1.drew fun n7 =>
  idx x1 y1 n4 1 fun a8 =>
  ldI .u64 a8 w1.drew fun n9 =>
  br ((n7 : Int) != n9) (
  R (.bool false) w1.drew) (
  arith .i64 (n4 + 1) fun n10 =>
  ∃ m11, m11 < m5 ∧ I1 n10 w1.drew m11)) (
  R (.bool true) w1))
@[irreducible] def tenonref01_SameLongs_ann : Ann := .seq .none (.seq .none (.seq (.seq .none (.one (.loop [(5, .int .i64)] (.seq .none (.seq (.one (.seq (.draw [[], [], [0, 1], [0, 1, 2], [], [], [4, 5], [4, 5, 6], [0, 1, 2, 3, 4, 5, 6, 7]] (ol [0, 1, 2, 3, 4, 5, 6, 7, 8] .nil)) .none)) .none))))) .none))
theorem tenonref01_SameLongs_call {x0 : Option Addr} {y0 z0 : Nat} {x1 : Option Addr} {y1 z1 : Nat} {R : Value → World → Prop} {w : World} (h : tenonref01_SameLongs x0 y0 z0 x1 y1 z1 R w) : call Try.prog 23 #[.slice x0 y0 z0, .slice x1 y1 z1] w R :=
  call_of_fnW plain mixed Try.func23 tenonref01_SameLongs_ann (Eq.mp (by kernel_rfl : tenonref01_SameLongs x0 y0 z0 x1 y1 z1 R w = fnW Try.prog Try.f23 tenonref01_SameLongs_ann #[.slice x0 y0 z0, .slice x1 y1 z1] R w) h)

def variant_Refs (x0 : Array Value) (R : Value → World → Prop) (w : World) : Prop :=
  new x0 24 w fun k1 w1 =>
  new #[.slice none 0 0] 46 w1 fun k2 w2 =>
  ldA (⟨k1, 0, none⟩ : Addr) 4 w2 fun g3 =>
  call Try.prog 26 #[.agg g3] w2 fun v4 w3 =>
  asF v4 fun f5 q5 t5 =>
  rangeW Try.prog (.func f5 q5 t5) 2 (fun xs6 N7 J8 T9 w4 => ∃ (n10 : Int) (g11 : Array Value), xs6 = #[.int .i64 n10, .agg g11] ∧
  new #[.int .i64 0, .int .i64 0, .string ByteArray.empty, .slice none 0 0] 24 w4 fun k12 w5 =>
  stA Try.prog (⟨k12, 0, none⟩ : Addr) 4 g11 w5 fun w6 =>
  T9 w6 fun w7 =>
  ldI .i64 ((⟨k12, 0, none⟩ : Addr).add 0) w7 fun n13 =>
  br ((n13 : Int) == 5) (
  ldS (⟨k2, 0, none⟩ : Addr) w7 fun p14 l14 c14 =>
  ldI .i64 ((⟨k12, 0, none⟩ : Addr).add 1) w7 fun n15 =>
  arith .u64 n15 fun n16 =>
  new #[.int .u64 n16] 49 w7 fun k17 w8 =>
  runsS Try.prog (Builtin.append_ #[46, 46] 46 #[.slice p14 l14 c14, .slice (some (⟨k17, 0, none⟩ : Addr)) 1 1]) w8 fun p18 l18 c18 w9 =>
  st (⟨k2, 0, none⟩ : Addr) (.slice p18 l18 c18) w9 fun w10 =>
  N7 w10) (
  N7 w7)) (fun D19 w11 =>
  ldS (⟨k2, 0, none⟩ : Addr) w11 fun p20 l20 c20 =>
  shutD D19 w11 fun w12 =>
  R (.slice p20 l20 c20) w12) (fun D21 c22 w13 => jmp c22 (
  False) []) w3
@[irreducible] def variant_Refs_ann : Ann := .seq .none (.seq .none (.seq (.seq .none (.one (.range [.int .i64, .agg] .none .none))) .none))
theorem variant_Refs_call {x0 : Array Value} {R : Value → World → Prop} {w : World} (h : variant_Refs x0 R w) : call Try.prog 24 #[.agg x0] w R :=
  call_of_fnW plain mixed Try.func24 variant_Refs_ann (Eq.mp (by kernel_rfl : variant_Refs x0 R w = fnW Try.prog Try.f24 variant_Refs_ann #[.agg x0] R w) h)

def variant_Same (x0 : Array Value) (x1 : Array Value) (R : Value → World → Prop) (w : World) : Prop :=
  new x0 24 w fun k1 w1 =>
  new x1 24 w1 fun k2 w2 =>
  ldI .i64 ((⟨k1, 0, none⟩ : Addr).add 0) w2 fun n3 =>
  ldI .i64 ((⟨k2, 0, none⟩ : Addr).add 0) w2 fun n4 =>
  br ((n3 : Int) != n4) (
  R (.bool false) w2) (
  ldI .i64 ((⟨k1, 0, none⟩ : Addr).add 1) w2 fun n5 =>
  ldI .i64 ((⟨k2, 0, none⟩ : Addr).add 1) w2 fun n6 =>
  br ((n5 : Int) != n6) (
  R (.bool false) w2) (
  ldT ((⟨k1, 0, none⟩ : Addr).add 2) w2 fun s7 =>
  ldT ((⟨k2, 0, none⟩ : Addr).add 2) w2 fun s8 =>
  br (!(s7.toList == s8.toList)) (
  R (.bool false) w2) (
  ldS ((⟨k1, 0, none⟩ : Addr).add 3) w2 fun p9 l9 c9 =>
  ldS ((⟨k2, 0, none⟩ : Addr).add 3) w2 fun p10 l10 c10 =>
  br ((l9 : Int) != (l10 : Int)) (
  R (.bool false) w2) (
  ldS ((⟨k1, 0, none⟩ : Addr).add 3) w2 fun p11 l11 c11 =>
  ∃ I12 : Int → World → Nat → Prop, (∃ m13, I12 0 w2 m13) ∧
  ∀ (u14 : Nat → Value) (n15 : Int) (w3 : World) (m16 : Nat), I12 n15 w3 m16 →
  br (decide ((n15 : Int) < (l11 : Int))) (
  idx p11 l11 n15 4 fun a17 =>
  ldA a17 4 w3 fun g18 =>
  new #[.int .i64 0, .int .i64 0, .string ByteArray.empty, .slice none 0 0] 24 w3 fun k19 w4 =>
  stA Try.prog (⟨k19, 0, none⟩ : Addr) 4 g18 w4 fun w5 =>
  ldA (⟨k19, 0, none⟩ : Addr) 4 w5.drew fun g20 =>
  ldS ((⟨k2, 0, none⟩ : Addr).add 3) w5.drew fun p21 l21 c21 =>
  idx p21 l21 n15 4 fun a22 =>
  ldA a22 4 w5.drew fun g23 =>
  call Try.prog 25 #[.agg g20, .agg g23] w5.drew fun v24 w6 =>
  asB v24 fun b25 =>
  br (!b25) (
  R (.bool false) w6) (
  arith .i64 (n15 + 1) fun n26 =>
  ∃ m27, m27 < m16 ∧ I12 n26 w6 m27)) (
  R (.bool true) w3)))))
@[irreducible] def variant_Same_ann : Ann := .seq .none (.seq .none (.seq (.seq .none (.one (.loop [(38, .int .i64)] (.seq .none (.seq .none (.seq (.one (.seq .none (.seq (.draw [[], [], [1], [], [1, 2, 3], [1, 2, 3, 4], [0, 1, 2, 3, 4, 5], [0, 1, 2, 3, 4, 5, 6]] (ol [0, 1, 2, 3, 4, 5, 6, 7] .nil)) .none))) .none)))))) .none))
theorem variant_Same_call {x0 : Array Value} {x1 : Array Value} {R : Value → World → Prop} {w : World} (h : variant_Same x0 x1 R w) : call Try.prog 25 #[.agg x0, .agg x1] w R :=
  call_of_fnW plain mixed Try.func25 variant_Same_ann (Eq.mp (by kernel_rfl : variant_Same x0 x1 R w = fnW Try.prog Try.f25 variant_Same_ann #[.agg x0, .agg x1] R w) h)

def variant_Walk (x0 : Array Value) (R : Value → World → Prop) (w : World) : Prop :=
  new x0 24 w fun k1 w1 =>
  R (.func (.func 40) #[] #[.pointer (some (⟨k1, 0, none⟩ : Addr))]) w1
@[irreducible] def variant_Walk_ann : Ann := .none
theorem variant_Walk_call {x0 : Array Value} {R : Value → World → Prop} {w : World} (h : variant_Walk x0 R w) : call Try.prog 26 #[.agg x0] w R :=
  call_of_fnW plain mixed Try.func26 variant_Walk_ann (Eq.mp (by kernel_rfl : variant_Walk x0 R w = fnW Try.prog Try.f26 variant_Walk_ann #[.agg x0] R w) h)

def variant_right (x0 : Array Value) (R : Value → World → Prop) (w : World) : Prop :=
  new x0 24 w fun k1 w1 =>
  ∃ J2 : Bool → World → Prop, (
  ldI .i64 ((⟨k1, 0, none⟩ : Addr).add 0) w1 fun n3 =>
  br (decide ((n3 : Int) ≥ 1)) (
  ldI .i64 ((⟨k1, 0, none⟩ : Addr).add 0) w1 fun n4 =>
  br (decide ((n4 : Int) ≤ 3)) (
  J2 true w1) (
  ldI .i64 ((⟨k1, 0, none⟩ : Addr).add 0) w1 fun n5 =>
  J2 ((n5 : Int) == 5) w1)) (
  ldI .i64 ((⟨k1, 0, none⟩ : Addr).add 0) w1 fun n6 =>
  J2 ((n6 : Int) == 5) w1)) ∧
  ∀ (u7 : Nat → Value) (b8 : Bool) (w2 : World), J2 b8 w2 →
  ∃ J9 : Bool → World → Prop, (
  ldI .i64 ((⟨k1, 0, none⟩ : Addr).add 0) w2 fun n10 =>
  br (decide ((n10 : Int) < 0)) (
  J9 true w2) (
  ldI .i64 ((⟨k1, 0, none⟩ : Addr).add 0) w2 fun n11 =>
  J9 (decide ((n11 : Int) > 6)) w2)) ∧
  ∀ (u12 : Nat → Value) (b13 : Bool) (w3 : World), J9 b13 w3 →
  br b13 (
  R (.bool false) w3) (
  ∃ J14 : Bool → World → Prop, (
  ∃ J15 : Bool → World → Prop, (
  br (!b8) (
  ldI .i64 ((⟨k1, 0, none⟩ : Addr).add 1) w3 fun n16 =>
  J15 ((n16 : Int) != 0) w3) (
  J15 false w3)) ∧
  ∀ (u17 : Nat → Value) (b18 : Bool) (w4 : World), J15 b18 w4 →
  br b18 (
  J14 b18 w4) (
  ldI .i64 ((⟨k1, 0, none⟩ : Addr).add 0) w4 fun n19 =>
  br ((n19 : Int) != 4) (
  ldT ((⟨k1, 0, none⟩ : Addr).add 2) w4 fun s20 =>
  br (!(s20.toList == (⟨#[]⟩ : ByteArray).toList)) (
  J14 (!(s20.toList == (⟨#[]⟩ : ByteArray).toList)) w4) (
  ldI .i64 ((⟨k1, 0, none⟩ : Addr).add 0) w4 fun n21 =>
  br ((n21 : Int) != 6) (
  ldS ((⟨k1, 0, none⟩ : Addr).add 3) w4 fun p22 l22 c22 =>
  J14 ((l22 : Int) != 0) w4) (
  J14 false w4))) (
  ldI .i64 ((⟨k1, 0, none⟩ : Addr).add 0) w4 fun n23 =>
  br ((n23 : Int) != 6) (
  ldS ((⟨k1, 0, none⟩ : Addr).add 3) w4 fun p24 l24 c24 =>
  J14 ((l24 : Int) != 0) w4) (
  J14 false w4)))) ∧
  ∀ (u25 : Nat → Value) (b26 : Bool) (w5 : World), J14 b26 w5 →
  br b26 (
  R (.bool false) w5) (
  ldI .i64 ((⟨k1, 0, none⟩ : Addr).add 0) w5 fun n27 =>
  br ((n27 : Int) == 1) (
  ldI .i64 ((⟨k1, 0, none⟩ : Addr).add 1) w5 fun n28 =>
  br ((n28 : Int) == 0) (
  R (.bool true) w5) (
  ldI .i64 ((⟨k1, 0, none⟩ : Addr).add 1) w5 fun n29 =>
  R (.bool ((n29 : Int) == 1)) w5)) (
  ldI .i64 ((⟨k1, 0, none⟩ : Addr).add 0) w5 fun n30 =>
  br ((n30 : Int) == 2) (
  ldI .i64 ((⟨k1, 0, none⟩ : Addr).add 1) w5 fun n31 =>
  arith .i32 n31 fun n32 =>
  arith .i64 n32 fun n33 =>
  ldI .i64 ((⟨k1, 0, none⟩ : Addr).add 1) w5 fun n34 =>
  R (.bool ((n33 : Int) == n34)) w5) (
  R (.bool true) w5))))
@[irreducible] def variant_right_ann : Ann := .seq .none (.meet [(3, .bool)] .none (.seq (.one (.meet [(17, .bool)] .none (.seq .none (.meet [(26, .bool)] (.meet [(26, .bool)] .none .none) .none)))) .none))
theorem variant_right_call {x0 : Array Value} {R : Value → World → Prop} {w : World} (h : variant_right x0 R w) : call Try.prog 27 #[.agg x0] w R :=
  call_of_fnW plain mixed Try.func27 variant_right_ann (Eq.mp (by kernel_rfl : variant_right x0 R w = fnW Try.prog Try.f27 variant_right_ann #[.agg x0] R w) h)

def tenonref06_form (x0 : Array Value) (R : Value → World → Prop) (w : World) : Prop :=
  new x0 24 w fun k1 w1 =>
  ldI .i64 ((⟨k1, 0, none⟩ : Addr).add 0) w1 fun n2 =>
  br ((n2 : Int) == 0) (
  ldI .i64 ((⟨k1, 0, none⟩ : Addr).add 1) w1 fun n3 =>
  br ((n3 : Int) == 0) (
  ldT ((⟨k1, 0, none⟩ : Addr).add 2) w1 fun s4 =>
  br (s4.toList == (⟨#[]⟩ : ByteArray).toList) (
  ldS ((⟨k1, 0, none⟩ : Addr).add 3) w1 fun p5 l5 c5 =>
  R (.bool ((l5 : Int) == 0)) w1) (
  R (.bool false) w1)) (
  R (.bool false) w1)) (
  br ((n2 : Int) == 1) (
  ldI .i64 ((⟨k1, 0, none⟩ : Addr).add 1) w1 fun n6 =>
  br ((n6 : Int) == 0) (
  ldT ((⟨k1, 0, none⟩ : Addr).add 2) w1 fun s7 =>
  br (s7.toList == (⟨#[]⟩ : ByteArray).toList) (
  ldS ((⟨k1, 0, none⟩ : Addr).add 3) w1 fun p8 l8 c8 =>
  R (.bool ((l8 : Int) == 0)) w1) (
  R (.bool false) w1)) (
  ldI .i64 ((⟨k1, 0, none⟩ : Addr).add 1) w1 fun n9 =>
  br ((n9 : Int) == 1) (
  ldT ((⟨k1, 0, none⟩ : Addr).add 2) w1 fun s10 =>
  br (s10.toList == (⟨#[]⟩ : ByteArray).toList) (
  ldS ((⟨k1, 0, none⟩ : Addr).add 3) w1 fun p11 l11 c11 =>
  R (.bool ((l11 : Int) == 0)) w1) (
  R (.bool false) w1)) (
  R (.bool false) w1))) (
  br ((n2 : Int) == 2) (
  ldI .i64 ((⟨k1, 0, none⟩ : Addr).add 1) w1 fun n12 =>
  br (decide ((n12 : Int) ≥ (-2147483648))) (
  ldI .i64 ((⟨k1, 0, none⟩ : Addr).add 1) w1 fun n13 =>
  br (decide ((n13 : Int) ≤ 2147483647)) (
  ldT ((⟨k1, 0, none⟩ : Addr).add 2) w1 fun s14 =>
  br (s14.toList == (⟨#[]⟩ : ByteArray).toList) (
  ldS ((⟨k1, 0, none⟩ : Addr).add 3) w1 fun p15 l15 c15 =>
  R (.bool ((l15 : Int) == 0)) w1) (
  R (.bool false) w1)) (
  R (.bool false) w1)) (
  R (.bool false) w1)) (
  ∃ J16 : Bool → World → Prop, (
  br ((n2 : Int) == 3) (
  J16 ((n2 : Int) == 3) w1) (
  J16 ((n2 : Int) == 5) w1)) ∧
  ∀ (u17 : Nat → Value) (b18 : Bool) (w2 : World), J16 b18 w2 →
  br b18 (
  ldT ((⟨k1, 0, none⟩ : Addr).add 2) w2 fun s19 =>
  br (s19.toList == (⟨#[]⟩ : ByteArray).toList) (
  ldS ((⟨k1, 0, none⟩ : Addr).add 3) w2 fun p20 l20 c20 =>
  R (.bool ((l20 : Int) == 0)) w2) (
  R (.bool false) w2)) (
  br ((n2 : Int) == 4) (
  ldI .i64 ((⟨k1, 0, none⟩ : Addr).add 1) w2 fun n21 =>
  br ((n21 : Int) == 0) (
  ldS ((⟨k1, 0, none⟩ : Addr).add 3) w2 fun p22 l22 c22 =>
  R (.bool ((l22 : Int) == 0)) w2) (
  R (.bool false) w2)) (
  br ((n2 : Int) == 6) (
  ldI .i64 ((⟨k1, 0, none⟩ : Addr).add 1) w2 fun n23 =>
  br ((n23 : Int) == 0) (
  ldT ((⟨k1, 0, none⟩ : Addr).add 2) w2 fun s24 =>
  R (.bool (s24.toList == (⟨#[]⟩ : ByteArray).toList)) w2) (
  R (.bool false) w2)) (
  R (.bool false) w2))))))
@[irreducible] def tenonref06_form_ann : Ann := .seq .none (.seq (.seq .none (.one (.seq .none (.seq .none (.seq .none (.seq .none (.seq .none (.seq .none (.meet [(63, .bool)] .none .none))))))))) .none)
theorem tenonref06_form_call {x0 : Array Value} {R : Value → World → Prop} {w : World} (h : tenonref06_form x0 R w) : call Try.prog 28 #[.agg x0] w R :=
  call_of_fnW plain mixed Try.func28 tenonref06_form_ann (Eq.mp (by kernel_rfl : tenonref06_form x0 R w = fnW Try.prog Try.f28 tenonref06_form_ann #[.agg x0] R w) h)

def tenonlaw06_some  (R : Value → World → Prop) (w : World) : Prop :=
  new #[.int .i64 0, .int .i64 0, .string ByteArray.empty, .slice none 0 0] 24 w fun k1 w1 =>
  new #[.int .i64 1, .int .i64 1, .string ByteArray.empty, .slice none 0 0, .int .i64 4, .int .i64 0, .string (⟨#[97]⟩ : ByteArray), .slice none 0 0] 24 w1 fun k2 w2 =>
  stA Try.prog (⟨k1, 0, none⟩ : Addr) 4 #[.int .i64 6, .int .i64 0, .string ByteArray.empty, .slice (some (⟨k2, 0, none⟩ : Addr)) 2 2] w2 fun w3 =>
  ldA (⟨k1, 0, none⟩ : Addr) 4 w3 fun g3 =>
  R (.agg g3) w3
@[irreducible] def tenonlaw06_some_ann : Ann := .none
theorem tenonlaw06_some_call  {R : Value → World → Prop} {w : World} (h : tenonlaw06_some  R w) : call Try.prog 29 #[] w R :=
  call_of_fnW plain mixed Try.func29 tenonlaw06_some_ann (Eq.mp (by kernel_rfl : tenonlaw06_some  R w = fnW Try.prog Try.f29 tenonlaw06_some_ann #[] R w) h)

def wire_NewWriter  (R : Value → World → Prop) (w : World) : Prop :=
  new #[.slice none 0 0] 74 w fun k1 w1 =>
  R (.pointer (some (⟨k1, 0, none⟩ : Addr))) w1
@[irreducible] def wire_NewWriter_ann : Ann := .none
theorem wire_NewWriter_call  {R : Value → World → Prop} {w : World} (h : wire_NewWriter  R w) : call Try.prog 30 #[] w R :=
  call_of_fnW plain mixed Try.func30 wire_NewWriter_ann (Eq.mp (by kernel_rfl : wire_NewWriter  R w = fnW Try.prog Try.f30 wire_NewWriter_ann #[] R w) h)

def wire_Writer_Num (x0 : Option Addr) (x1 : Int) (x2 : Int) (R : Value → World → Prop) (w : World) : Prop :=
  ∃ J1 : World → Prop, (
  br x0.isNone (
  R (.int .i64 1) w) (
  call Try.prog 42 #[.int .i64 x2] w fun v2 w1 =>
  asB v2 fun b3 =>
  br (!b3) (
  R (.int .i64 1) w1) (
  br (decide ((x2 : Int) < 8)) (
  arith .i64 (8 * x2) fun n4 =>
  shr .u64 x1 n4 fun n5 =>
  br ((n5 : Int) != 0) (
  R (.int .i64 1) w1) (
  J1  w1)) (
  J1  w1)))) ∧
  ∀ (u6 : Nat → Value)  (w2 : World), J1  w2 →
  nn x0 fun a7 =>
  ldS (a7.add 0) w2.drew fun p8 l8 c8 =>
  nn x0 fun a9 =>
  ldS (a9.add 0) w2.drew fun p10 l10 c10 =>
  call Try.prog 43 #[.int .i64 ((l10 : Int)), .int .i64 x2] w2.drew fun v11 w3 =>
  asI .i64 v11 fun n12 =>
  w3.cell? (a7.add 0) = some (.slice p8 l8 c8) ∧
  runsS Try.prog (Builtin.append_ #[30, 3] 30 #[.slice p8 l8 c8, .int .i64 n12]) w3 fun p13 l13 c13 w4 =>
  nn x0 fun a14 =>
  st (a14.add 0) (.slice p13 l13 c13) w4 fun w5 =>
  ∃ I15 : Int → World → Nat → Prop, (∃ m16, I15 0 w5 m16) ∧
  ∀ (u17 : Nat → Value) (n18 : Int) (w6 : World) (m19 : Nat), I15 n18 w6 m19 →
  br (decide ((n18 : Int) < x2)) (
  nn x0 fun a20 =>
  ldS (a20.add 0) w6.drew fun p21 l21 c21 =>
  arith .i64 (8 * n18) fun n22 =>
  shr .u64 x1 n22 fun n23 =>
  arith .u8 n23 fun n24 =>
  new #[.int .u8 n24] 5 w6.drew fun k25 w7 =>
  runsS Try.prog (Builtin.append_ #[30, 30] 30 #[.slice p21 l21 c21, .slice (some (⟨k25, 0, none⟩ : Addr)) 1 1]) w7 fun p26 l26 c26 w8 =>
  nn x0 fun a27 =>
  st (a27.add 0) (.slice p26 l26 c26) w8 fun w9 =>
  arith .i64 (n18 + 1) fun n28 =>
  ∃ m29, m29 < m19 ∧ I15 n28 w9 m29) (
  R (.int .i64 0) w6)
@[irreducible] def wire_Writer_Num_ann : Ann := .seq .none (.meet [] .none (.seq (.draw [[], [], [1], [1, 2], [1, 2, 3], [], [5], [5, 6], [5, 6, 7], [5, 6, 7, 8], [], [5, 6, 7, 8, 9, 10], [1, 2, 3, 4, 5, 6, 7, 8, 9, 10, 11], [0, 1, 2, 3, 4, 5, 6, 7, 8, 9, 10, 11, 12], [0, 1, 2, 3, 4, 5, 6, 7, 8, 9, 10, 11, 12, 13], [0, 1, 2, 3, 4, 5, 6, 7, 8, 9, 10, 11, 12, 13, 14]] (ol [0, 1, 2, 3, 4, 5, 6, 7, 8, 9, 10, 11, 12, 13, 14, 15] .nil)) (.seq (.seq .none (.one (.loop [(42, .int .i64)] (.seq .none (.seq .none (.seq (.one (.seq .none (.draw [[], [], [1], [1, 2], [1, 2, 3], [], [], [6], [5, 6, 7], [5, 6, 7, 8], [5, 6, 7, 8, 9], [1, 2, 3, 4, 5, 6, 7, 8, 9, 10], [0, 1, 2, 3, 4, 5, 6, 7, 8, 9, 10, 11], [0, 1, 2, 3, 4, 5, 6, 7, 8, 9, 10, 11, 12], [0, 1, 2, 3, 4, 5, 6, 7, 8, 9, 10, 11, 12, 13]] (ol [0, 1, 2, 3, 4, 5, 6, 7, 8, 9, 10, 11, 12, 13, 14] .nil)))) .none)))))) .none)))
theorem wire_Writer_Num_call {x0 : Option Addr} {x1 : Int} {x2 : Int} {R : Value → World → Prop} {w : World} (h : wire_Writer_Num x0 x1 x2 R w) : call Try.prog 31 #[.pointer x0, .int .u64 x1, .int .i64 x2] w R :=
  call_of_fnW plain mixed Try.func31 wire_Writer_Num_ann (Eq.mp (by kernel_rfl : wire_Writer_Num x0 x1 x2 R w = fnW Try.prog Try.f31 wire_Writer_Num_ann #[.pointer x0, .int .u64 x1, .int .i64 x2] R w) h)

def wire_Writer_Text (x0 : Option Addr) (x1 : Option Addr) (y1 z1 : Nat) (R : Value → World → Prop) (w : World) : Prop :=
  br x0.isNone (
  R (.int .i64 1) w) (
  br (decide ((y1 : Int) > 65535)) (
  R (.int .i64 1) w) (
  arith .u64 ((y1 : Int)) fun n1 =>
  call Try.prog 31 #[.pointer x0, .int .u64 n1, .int .i64 4] w fun v2 w1 =>
  asI .i64 v2 fun n3 =>
  nn x0 fun a4 =>
  ldS (a4.add 0) w1 fun p5 l5 c5 =>
  runsS Try.prog (Builtin.append_ #[30, 30] 30 #[.slice p5 l5 c5, .slice x1 y1 z1]) w1 fun p6 l6 c6 w2 =>
  nn x0 fun a7 =>
  st (a7.add 0) (.slice p6 l6 c6) w2 fun w3 =>
  R (.int .i64 0) w3))
@[irreducible] def wire_Writer_Text_ann : Ann := .none
theorem wire_Writer_Text_call {x0 : Option Addr} {x1 : Option Addr} {y1 z1 : Nat} {R : Value → World → Prop} {w : World} (h : wire_Writer_Text x0 x1 y1 z1 R w) : call Try.prog 32 #[.pointer x0, .slice x1 y1 z1] w R :=
  call_of_fnW plain mixed Try.func32 wire_Writer_Text_ann (Eq.mp (by kernel_rfl : wire_Writer_Text x0 x1 y1 z1 R w = fnW Try.prog Try.f32 wire_Writer_Text_ann #[.pointer x0, .slice x1 y1 z1] R w) h)

def wire_Writer_Bytes (x0 : Option Addr) (R : Value → World → Prop) (w : World) : Prop :=
  br x0.isNone (
  R (.slice none 0 0) w) (
  nn x0 fun a1 =>
  ldS (a1.add 0) w fun p2 l2 c2 =>
  call Try.prog 44 #[.slice p2 l2 c2] w fun v3 w1 =>
  asS v3 fun p4 l4 c4 =>
  R (.slice p4 l4 c4) w1)
@[irreducible] def wire_Writer_Bytes_ann : Ann := .none
theorem wire_Writer_Bytes_call {x0 : Option Addr} {R : Value → World → Prop} {w : World} (h : wire_Writer_Bytes x0 R w) : call Try.prog 33 #[.pointer x0] w R :=
  call_of_fnW plain mixed Try.func33 wire_Writer_Bytes_ann (Eq.mp (by kernel_rfl : wire_Writer_Bytes x0 R w = fnW Try.prog Try.f33 wire_Writer_Bytes_ann #[.pointer x0] R w) h)

def tenonref05_Num (x0 : Option Addr) (y0 z0 : Nat) (x1 : Int) (x2 : Int) (R : Value → World → Prop) (w : World) : Prop :=
  runsS Try.prog (Builtin.append_ #[30, 30] 30 #[.slice none 0 0, .slice x0 y0 z0]) w fun p1 l1 c1 w1 =>
  ∃ I2 : Option Addr → Nat → Nat → World → Nat → Prop, (∃ m3, I2 p1 l1 c1 w1 m3) ∧
  ∀ (u4 : Nat → Value) (p5 : Option Addr) (l5 c5 : Nat) (w2 : World) (m6 : Nat), I2 p5 l5 c5 w2 m6 →
  rem ((l5 : Int)) x2 fun n7 =>
  br ((n7 : Int) != 0) (
  new #[.int .u8 0] 5 w2 fun k8 w3 =>
  runsS Try.prog (Builtin.append_ #[30, 30] 30 #[.slice p5 l5 c5, .slice (some (⟨k8, 0, none⟩ : Addr)) 1 1]) w3 fun p9 l9 c9 w4 =>
  ∃ m10, m10 < m6 ∧ I2 p9 l9 c9 w4 m10) (
  ∃ I11 : Int → Option Addr → Nat → Nat → Int → World → Nat → Prop, (∃ m12, I11 x1 p5 l5 c5 0 w2 m12) ∧
  ∀ (u13 : Nat → Value) (n14 : Int) (p15 : Option Addr) (l15 c15 : Nat) (n16 : Int) (w5 : World) (m17 : Nat), I11 n14 p15 l15 c15 n16 w5 m17 →
  br (decide ((n16 : Int) < x2)) (
  rem n14 256 fun n18 =>
  arith .u8 n18 fun n19 =>
  new #[.int .u8 n19] 5 w5 fun k20 w6 =>
  runsS Try.prog (Builtin.append_ #[30, 30] 30 #[.slice p15 l15 c15, .slice (some (⟨k20, 0, none⟩ : Addr)) 1 1]) w6 fun p21 l21 c21 w7 =>
  quo .u64 n14 256 fun n22 =>
  arith .i64 (n16 + 1) fun n23 =>
  ∃ m24, m24 < m17 ∧ I11 n22 p21 l21 c21 n23 w7 m24) (
  R (.slice p15 l15 c15) w5))
@[irreducible] def tenonref05_Num_ann : Ann := .seq .none (.seq .none (.seq .none (.seq (.one (.loop [(7, .slice)] .none)) (.seq (.seq .none (.one (.loop [(1, .int .u64), (7, .slice), (8, .int .i64)] .none))) .none))))
theorem tenonref05_Num_call {x0 : Option Addr} {y0 z0 : Nat} {x1 : Int} {x2 : Int} {R : Value → World → Prop} {w : World} (h : tenonref05_Num x0 y0 z0 x1 x2 R w) : call Try.prog 34 #[.slice x0 y0 z0, .int .u64 x1, .int .i64 x2] w R :=
  call_of_fnW plain mixed Try.func34 tenonref05_Num_ann (Eq.mp (by kernel_rfl : tenonref05_Num x0 y0 z0 x1 x2 R w = fnW Try.prog Try.f34 tenonref05_Num_ann #[.slice x0 y0 z0, .int .u64 x1, .int .i64 x2] R w) h)

def tenonref05_Text (x0 : Option Addr) (y0 z0 : Nat) (x1 : Option Addr) (y1 z1 : Nat) (R : Value → World → Prop) (w : World) : Prop :=
  arith .u64 ((y1 : Int)) fun n1 =>
  call Try.prog 34 #[.slice x0 y0 z0, .int .u64 n1, .int .i64 4] w fun v2 w1 =>
  asS v2 fun p3 l3 c3 =>
  runsS Try.prog (Builtin.append_ #[30, 30] 30 #[.slice p3 l3 c3, .slice x1 y1 z1]) w1 fun p4 l4 c4 w2 =>
  R (.slice p4 l4 c4) w2
@[irreducible] def tenonref05_Text_ann : Ann := .none
theorem tenonref05_Text_call {x0 : Option Addr} {y0 z0 : Nat} {x1 : Option Addr} {y1 z1 : Nat} {R : Value → World → Prop} {w : World} (h : tenonref05_Text x0 y0 z0 x1 y1 z1 R w) : call Try.prog 35 #[.slice x0 y0 z0, .slice x1 y1 z1] w R :=
  call_of_fnW plain mixed Try.func35 tenonref05_Text_ann (Eq.mp (by kernel_rfl : tenonref05_Text x0 y0 z0 x1 y1 z1 R w = fnW Try.prog Try.f35 tenonref05_Text_ann #[.slice x0 y0 z0, .slice x1 y1 z1] R w) h)

def wire_NewReader (x0 : Option Addr) (y0 z0 : Nat) (R : Value → World → Prop) (w : World) : Prop :=
  call Try.prog 44 #[.slice x0 y0 z0] w fun v1 w1 =>
  asS v1 fun p2 l2 c2 =>
  new #[.slice p2 l2 c2, .int .i64 0] 77 w1 fun k3 w2 =>
  R (.pointer (some (⟨k3, 0, none⟩ : Addr))) w2
@[irreducible] def wire_NewReader_ann : Ann := .none
theorem wire_NewReader_call {x0 : Option Addr} {y0 z0 : Nat} {R : Value → World → Prop} {w : World} (h : wire_NewReader x0 y0 z0 R w) : call Try.prog 36 #[.slice x0 y0 z0] w R :=
  call_of_fnW plain mixed Try.func36 wire_NewReader_ann (Eq.mp (by kernel_rfl : wire_NewReader x0 y0 z0 R w = fnW Try.prog Try.f36 wire_NewReader_ann #[.slice x0 y0 z0] R w) h)

def variant_decode (x0 : Option Addr) (x1 : Int) (R : Value → World → Prop) (w : World) : Prop :=
  new #[.int .i64 0, .int .i64 0, .string ByteArray.empty, .slice none 0 0] 24 w fun k1 w1 =>
  br (decide ((x1 : Int) ≥ 8)) (
  stA Try.prog (⟨k1, 0, none⟩ : Addr) 4 #[.int .i64 0, .int .i64 0, .string ByteArray.empty, .slice none 0 0] w1 fun w2 =>
  ldA (⟨k1, 0, none⟩ : Addr) 4 w2 fun g2 =>
  R (.tuple #[.agg g2, .int .i64 16]) w2) (
  call Try.prog 45 #[.pointer x0, .int .i64 1] w1 fun v3 w3 =>
  ∃ (n4 : Int) (n5 : Int),
  v3 = .tuple #[.int .u64 n4, .int .i64 n5] ∧
  arith .i64 n4 fun n6 =>
  st ((⟨k1, 0, none⟩ : Addr).add 0) (.int .i64 n6) w3 fun w4 =>
  ldI .i64 ((⟨k1, 0, none⟩ : Addr).add 0) w4 fun n7 =>
  br ((n7 : Int) == 0) (
  br ((n5 : Int) != 0) (
  stA Try.prog (⟨k1, 0, none⟩ : Addr) 4 #[.int .i64 0, .int .i64 0, .string ByteArray.empty, .slice none 0 0] w4 fun w5 =>
  ldA (⟨k1, 0, none⟩ : Addr) 4 w5 fun g8 =>
  R (.tuple #[.agg g8, .int .i64 n5]) w5) (
  ldA (⟨k1, 0, none⟩ : Addr) 4 w4 fun g9 =>
  stA Try.prog (⟨k1, 0, none⟩ : Addr) 4 g9 w4 fun w6 =>
  ldA (⟨k1, 0, none⟩ : Addr) 4 w6 fun g10 =>
  R (.tuple #[.agg g10, .int .i64 0]) w6)) (
  ∃ J11 : Bool → World → Prop, (
  br ((n7 : Int) == 1) (
  J11 ((n7 : Int) == 1) w4) (
  br ((n7 : Int) == 2) (
  J11 ((n7 : Int) == 2) w4) (
  br ((n7 : Int) == 3) (
  J11 ((n7 : Int) == 3) w4) (
  J11 ((n7 : Int) == 5) w4)))) ∧
  ∀ (u12 : Nat → Value) (b13 : Bool) (w7 : World), J11 b13 w7 →
  br b13 (
  newM w7 fun k14 w8 =>
  setM Try.prog 80 (some k14) (.int .i64 1) (.int .i64 1) w8 fun w9 =>
  setM Try.prog 80 (some k14) (.int .i64 2) (.int .i64 4) w9 fun w10 =>
  ldI .i64 ((⟨k1, 0, none⟩ : Addr).add 0) w10 fun n15 =>
  lookW Try.prog 80 (some k14) (.int .i64 n15) false w10 fun v16 =>
  asI .i64 v16 fun n17 =>
  ∃ J18 : Int → World → Prop, (
  br ((n17 : Int) == 0) (
  J18 8 w10) (
  J18 n17 w10)) ∧
  ∀ (u19 : Nat → Value) (n20 : Int) (w11 : World), J18 n20 w11 →
  call Try.prog 45 #[.pointer x0, .int .i64 n20] w11 fun v21 w12 =>
  ∃ (n22 : Int) (n23 : Int),
  v21 = .tuple #[.int .u64 n22, .int .i64 n23] ∧
  br ((n23 : Int) != 0) (
  br ((n23 : Int) != 0) (
  stA Try.prog (⟨k1, 0, none⟩ : Addr) 4 #[.int .i64 0, .int .i64 0, .string ByteArray.empty, .slice none 0 0] w12 fun w13 =>
  ldA (⟨k1, 0, none⟩ : Addr) 4 w13 fun g24 =>
  R (.tuple #[.agg g24, .int .i64 n23]) w13) (
  ldA (⟨k1, 0, none⟩ : Addr) 4 w12 fun g25 =>
  stA Try.prog (⟨k1, 0, none⟩ : Addr) 4 g25 w12 fun w14 =>
  ldA (⟨k1, 0, none⟩ : Addr) 4 w14 fun g26 =>
  R (.tuple #[.agg g26, .int .i64 0]) w14)) (
  arith .i64 n22 fun n27 =>
  st ((⟨k1, 0, none⟩ : Addr).add 1) (.int .i64 n27) w12 fun w15 =>
  ldI .i64 ((⟨k1, 0, none⟩ : Addr).add 0) w15 fun n28 =>
  br ((n28 : Int) == 2) (
  arith .i32 n22 fun n29 =>
  arith .i64 n29 fun n30 =>
  st ((⟨k1, 0, none⟩ : Addr).add 1) (.int .i64 n30) w15 fun w16 =>
  ldA (⟨k1, 0, none⟩ : Addr) 4 w16 fun g31 =>
  call Try.prog 27 #[.agg g31] w16 fun v32 w17 =>
  asB v32 fun b33 =>
  br (!b33) (
  br ((5 : Int) != 0) (
  stA Try.prog (⟨k1, 0, none⟩ : Addr) 4 #[.int .i64 0, .int .i64 0, .string ByteArray.empty, .slice none 0 0] w17 fun w18 =>
  ldA (⟨k1, 0, none⟩ : Addr) 4 w18 fun g34 =>
  R (.tuple #[.agg g34, .int .i64 5]) w18) (
  ldA (⟨k1, 0, none⟩ : Addr) 4 w17 fun g35 =>
  stA Try.prog (⟨k1, 0, none⟩ : Addr) 4 g35 w17 fun w19 =>
  ldA (⟨k1, 0, none⟩ : Addr) 4 w19 fun g36 =>
  R (.tuple #[.agg g36, .int .i64 0]) w19)) (
  br ((n23 : Int) != 0) (
  stA Try.prog (⟨k1, 0, none⟩ : Addr) 4 #[.int .i64 0, .int .i64 0, .string ByteArray.empty, .slice none 0 0] w17 fun w20 =>
  ldA (⟨k1, 0, none⟩ : Addr) 4 w20 fun g37 =>
  R (.tuple #[.agg g37, .int .i64 n23]) w20) (
  ldA (⟨k1, 0, none⟩ : Addr) 4 w17 fun g38 =>
  stA Try.prog (⟨k1, 0, none⟩ : Addr) 4 g38 w17 fun w21 =>
  ldA (⟨k1, 0, none⟩ : Addr) 4 w21 fun g39 =>
  R (.tuple #[.agg g39, .int .i64 0]) w21))) (
  ldA (⟨k1, 0, none⟩ : Addr) 4 w15 fun g40 =>
  call Try.prog 27 #[.agg g40] w15 fun v41 w22 =>
  asB v41 fun b42 =>
  br (!b42) (
  br ((5 : Int) != 0) (
  stA Try.prog (⟨k1, 0, none⟩ : Addr) 4 #[.int .i64 0, .int .i64 0, .string ByteArray.empty, .slice none 0 0] w22 fun w23 =>
  ldA (⟨k1, 0, none⟩ : Addr) 4 w23 fun g43 =>
  R (.tuple #[.agg g43, .int .i64 5]) w23) (
  ldA (⟨k1, 0, none⟩ : Addr) 4 w22 fun g44 =>
  stA Try.prog (⟨k1, 0, none⟩ : Addr) 4 g44 w22 fun w24 =>
  ldA (⟨k1, 0, none⟩ : Addr) 4 w24 fun g45 =>
  R (.tuple #[.agg g45, .int .i64 0]) w24)) (
  br ((n23 : Int) != 0) (
  stA Try.prog (⟨k1, 0, none⟩ : Addr) 4 #[.int .i64 0, .int .i64 0, .string ByteArray.empty, .slice none 0 0] w22 fun w25 =>
  ldA (⟨k1, 0, none⟩ : Addr) 4 w25 fun g46 =>
  R (.tuple #[.agg g46, .int .i64 n23]) w25) (
  ldA (⟨k1, 0, none⟩ : Addr) 4 w22 fun g47 =>
  stA Try.prog (⟨k1, 0, none⟩ : Addr) 4 g47 w22 fun w26 =>
  ldA (⟨k1, 0, none⟩ : Addr) 4 w26 fun g48 =>
  R (.tuple #[.agg g48, .int .i64 0]) w26))))) (
  br ((n7 : Int) == 4) (
  call Try.prog 46 #[.pointer x0, .int .i64 256] w7 fun v49 w27 =>
  ∃ (p50 : Option Addr) (l50 c50 : Nat) (n51 : Int),
  v49 = .tuple #[.slice p50 l50 c50, .int .i64 n51] ∧
  runsT Try.prog (convert 30 9 (.slice p50 l50 c50)) w27 fun s52 w28 =>
  st ((⟨k1, 0, none⟩ : Addr).add 2) (.string s52) w28 fun w29 =>
  br ((n51 : Int) != 0) (
  stA Try.prog (⟨k1, 0, none⟩ : Addr) 4 #[.int .i64 0, .int .i64 0, .string ByteArray.empty, .slice none 0 0] w29 fun w30 =>
  ldA (⟨k1, 0, none⟩ : Addr) 4 w30 fun g53 =>
  R (.tuple #[.agg g53, .int .i64 n51]) w30) (
  ldA (⟨k1, 0, none⟩ : Addr) 4 w29 fun g54 =>
  stA Try.prog (⟨k1, 0, none⟩ : Addr) 4 g54 w29 fun w31 =>
  ldA (⟨k1, 0, none⟩ : Addr) 4 w31 fun g55 =>
  R (.tuple #[.agg g55, .int .i64 0]) w31)) (
  br ((n7 : Int) == 6) (
  ∃ J56 : Int → Int → World → Prop, (
  call Try.prog 45 #[.pointer x0, .int .i64 4] w7 fun v57 w32 =>
  ∃ (n58 : Int) (n59 : Int),
  v57 = .tuple #[.int .u64 n58, .int .i64 n59] ∧
  br ((n59 : Int) == 0) (
  br (decide ((n58 : Int) > 64)) (
  J56 20 n58 w32) (
  J56 n59 n58 w32)) (
  J56 n59 n58 w32)) ∧
  ∀ (u60 : Nat → Value) (n61 : Int) (n62 : Int) (w33 : World), J56 n61 n62 w33 →
  ∃ I63 : Int → Int → World → Nat → Prop, (∃ m64, I63 n61 0 w33 m64) ∧
  ∀ (u65 : Nat → Value) (n66 : Int) (n67 : Int) (w34 : World) (m68 : Nat), I63 n66 n67 w34 m68 →
  br (decide ((n67 : Int) < n62)) (
  br ((n66 : Int) != 0) (
  br ((n66 : Int) != 0) (
  stA Try.prog (⟨k1, 0, none⟩ : Addr) 4 #[.int .i64 0, .int .i64 0, .string ByteArray.empty, .slice none 0 0] w34 fun w35 =>
  ldA (⟨k1, 0, none⟩ : Addr) 4 w35 fun g69 =>
  R (.tuple #[.agg g69, .int .i64 n66]) w35) (
  ldA (⟨k1, 0, none⟩ : Addr) 4 w34 fun g70 =>
  stA Try.prog (⟨k1, 0, none⟩ : Addr) 4 g70 w34 fun w36 =>
  ldA (⟨k1, 0, none⟩ : Addr) 4 w36 fun g71 =>
  R (.tuple #[.agg g71, .int .i64 0]) w36)) (
  new #[.int .i64 0, .int .i64 0, .string ByteArray.empty, .slice none 0 0] 24 w34 fun k72 w37 =>
  arith .i64 (x1 + 1) fun n73 =>
  call Try.prog 37 #[.pointer x0, .int .i64 n73] w37 fun v74 w38 =>
  ∃ (g75 : Array Value) (n76 : Int),
  v74 = .tuple #[.agg g75, .int .i64 n76] ∧
  stA Try.prog (⟨k72, 0, none⟩ : Addr) 4 g75 w38 fun w39 =>
  br ((n76 : Int) == 0) (
  ldS ((⟨k1, 0, none⟩ : Addr).add 3) w39 fun p77 l77 c77 =>
  ldA (⟨k72, 0, none⟩ : Addr) 4 w39 fun g78 =>
  (g78 : Array Value).size = 4 ∧
  new g78 24 w39 fun k79 w40 =>
  runsS Try.prog (Builtin.append_ #[22, 22] 22 #[.slice p77 l77 c77, .slice (some (⟨k79, 0, none⟩ : Addr)) 1 1]) w40 fun p80 l80 c80 w41 =>
  st ((⟨k1, 0, none⟩ : Addr).add 3) (.slice p80 l80 c80) w41 fun w42 =>
  arith .u64 (n67 + 1) fun n81 =>
  ∃ m82, m82 < m68 ∧ I63 n76 n81 w42 m82) (
  arith .u64 (n67 + 1) fun n83 =>
  ∃ m84, m84 < m68 ∧ I63 n76 n83 w39 m84))) (
  br ((n66 : Int) != 0) (
  stA Try.prog (⟨k1, 0, none⟩ : Addr) 4 #[.int .i64 0, .int .i64 0, .string ByteArray.empty, .slice none 0 0] w34 fun w43 =>
  ldA (⟨k1, 0, none⟩ : Addr) 4 w43 fun g85 =>
  R (.tuple #[.agg g85, .int .i64 n66]) w43) (
  ldA (⟨k1, 0, none⟩ : Addr) 4 w34 fun g86 =>
  stA Try.prog (⟨k1, 0, none⟩ : Addr) 4 g86 w34 fun w44 =>
  ldA (⟨k1, 0, none⟩ : Addr) 4 w44 fun g87 =>
  R (.tuple #[.agg g87, .int .i64 0]) w44))) (
  br ((5 : Int) != 0) (
  stA Try.prog (⟨k1, 0, none⟩ : Addr) 4 #[.int .i64 0, .int .i64 0, .string ByteArray.empty, .slice none 0 0] w7 fun w45 =>
  ldA (⟨k1, 0, none⟩ : Addr) 4 w45 fun g88 =>
  R (.tuple #[.agg g88, .int .i64 5]) w45) (
  ldA (⟨k1, 0, none⟩ : Addr) 4 w7 fun g89 =>
  stA Try.prog (⟨k1, 0, none⟩ : Addr) 4 g89 w7 fun w46 =>
  ldA (⟨k1, 0, none⟩ : Addr) 4 w46 fun g90 =>
  R (.tuple #[.agg g90, .int .i64 0]) w46))))))
@[irreducible] def variant_decode_ann : Ann := .seq .none (.one (.seq .none (.seq .none (.seq .none (.seq .none (.seq (.seq .none (.seq .none (.one (.seq .none (.seq .none (.meet [(26, .bool)] .none (.seq (.seq .none (.meet [(8, .int .i64)] .none .none)) (.seq .none (.seq .none (.seq .none (.seq (.meet [(5, .int .i64), (7, .int .u64)] .none (.seq .none (.one (.loop [(5, .int .i64), (83, .int .u64)] .none)))) .none))))))))))) .none))))))
theorem variant_decode_call {x0 : Option Addr} {x1 : Int} {R : Value → World → Prop} {w : World} (h : variant_decode x0 x1 R w) : call Try.prog 37 #[.pointer x0, .int .i64 x1] w R :=
  call_of_fnW plain mixed Try.func37 variant_decode_ann (Eq.mp (by kernel_rfl : variant_decode x0 x1 R w = fnW Try.prog Try.f37 variant_decode_ann #[.pointer x0, .int .i64 x1] R w) h)

def wire_Reader_End (x0 : Option Addr) (R : Value → World → Prop) (w : World) : Prop :=
  call Try.prog 47 #[.pointer x0] w fun v1 w1 =>
  asI .i64 v1 fun n2 =>
  br (decide ((n2 : Int) > 0)) (
  R (.int .i64 5) w1) (
  R (.int .i64 0) w1)
@[irreducible] def wire_Reader_End_ann : Ann := .none
theorem wire_Reader_End_call {x0 : Option Addr} {R : Value → World → Prop} {w : World} (h : wire_Reader_End x0 R w) : call Try.prog 38 #[.pointer x0] w R :=
  call_of_fnW plain mixed Try.func38 wire_Reader_End_ann (Eq.mp (by kernel_rfl : wire_Reader_End x0 R w = fnW Try.prog Try.f38 wire_Reader_End_ann #[.pointer x0] R w) h)

def tenonref06_Read (x0 : Option Addr) (y0 z0 : Nat) (x1 : Int) (x2 : Int) (R : Value → World → Prop) (w : World) : Prop :=
  new #[.int .i64 0, .int .i64 0, .string ByteArray.empty, .slice none 0 0] 24 w fun k1 w1 =>
  new #[.int .i64 0, .int .i64 0, .string ByteArray.empty, .slice none 0 0] 24 w1 fun k2 w2 =>
  stA Try.prog (⟨k2, 0, none⟩ : Addr) 4 #[.int .i64 0, .int .i64 0, .string ByteArray.empty, .slice none 0 0] w2 fun w3 =>
  br (decide ((x2 : Int) > 8)) (
  ldA (⟨k2, 0, none⟩ : Addr) 4 w3 fun g3 =>
  stA Try.prog (⟨k1, 0, none⟩ : Addr) 4 g3 w3 fun w4 =>
  ldA (⟨k1, 0, none⟩ : Addr) 4 w4 fun g4 =>
  R (.tuple #[.agg g4, .int .i64 x1, .int .i64 16]) w4) (
  call Try.prog 48 #[.slice x0 y0 z0, .int .i64 x1, .int .i64 1] w3 fun v5 w5 =>
  ∃ (n6 : Int) (n7 : Int) (n8 : Int),
  v5 = .tuple #[.int .u64 n6, .int .i64 n7, .int .i64 n8] ∧
  br ((n8 : Int) != 0) (
  ldA (⟨k2, 0, none⟩ : Addr) 4 w5 fun g9 =>
  stA Try.prog (⟨k1, 0, none⟩ : Addr) 4 g9 w5 fun w6 =>
  ldA (⟨k1, 0, none⟩ : Addr) 4 w6 fun g10 =>
  R (.tuple #[.agg g10, .int .i64 x1, .int .i64 n8]) w6) (
  arith .i64 n6 fun n11 =>
  new #[.int .i64 0, .int .i64 0, .string ByteArray.empty, .slice none 0 0] 24 w5 fun k12 w7 =>
  stA Try.prog (⟨k12, 0, none⟩ : Addr) 4 #[.int .i64 n11, .int .i64 0, .string ByteArray.empty, .slice none 0 0] w7 fun w8 =>
  br ((n6 : Int) == 0) (
  ldA (⟨k12, 0, none⟩ : Addr) 4 w8 fun g13 =>
  stA Try.prog (⟨k1, 0, none⟩ : Addr) 4 g13 w8 fun w9 =>
  ldA (⟨k1, 0, none⟩ : Addr) 4 w9 fun g14 =>
  R (.tuple #[.agg g14, .int .i64 n7, .int .i64 0]) w9) (
  ∃ J15 : Bool → World → Prop, (
  br ((n6 : Int) == 1) (
  J15 ((n6 : Int) == 1) w8) (
  br ((n6 : Int) == 2) (
  J15 ((n6 : Int) == 2) w8) (
  br ((n6 : Int) == 3) (
  J15 ((n6 : Int) == 3) w8) (
  J15 ((n6 : Int) == 5) w8)))) ∧
  ∀ (u16 : Nat → Value) (b17 : Bool) (w10 : World), J15 b17 w10 →
  br b17 (
  ∃ J18 : Int → World → Prop, (
  br ((n6 : Int) == 1) (
  J18 1 w10) (
  J18 8 w10)) ∧
  ∀ (u19 : Nat → Value) (n20 : Int) (w11 : World), J18 n20 w11 →
  ∃ J21 : Int → World → Prop, (
  br ((n6 : Int) == 2) (
  J21 4 w11) (
  J21 n20 w11)) ∧
  ∀ (u22 : Nat → Value) (n23 : Int) (w12 : World), J21 n23 w12 →
  call Try.prog 48 #[.slice x0 y0 z0, .int .i64 n7, .int .i64 n23] w12 fun v24 w13 =>
  ∃ (n25 : Int) (n26 : Int) (n27 : Int),
  v24 = .tuple #[.int .u64 n25, .int .i64 n26, .int .i64 n27] ∧
  br ((n27 : Int) != 0) (
  ldA (⟨k2, 0, none⟩ : Addr) 4 w13 fun g28 =>
  stA Try.prog (⟨k1, 0, none⟩ : Addr) 4 g28 w13 fun w14 =>
  ldA (⟨k1, 0, none⟩ : Addr) 4 w14 fun g29 =>
  R (.tuple #[.agg g29, .int .i64 x1, .int .i64 n27]) w14) (
  ∃ J30 : World → Prop, (
  br ((n6 : Int) == 1) (
  br (decide ((n25 : Int) > 1)) (
  ldA (⟨k2, 0, none⟩ : Addr) 4 w13 fun g31 =>
  stA Try.prog (⟨k1, 0, none⟩ : Addr) 4 g31 w13 fun w15 =>
  ldA (⟨k1, 0, none⟩ : Addr) 4 w15 fun g32 =>
  R (.tuple #[.agg g32, .int .i64 x1, .int .i64 5]) w15) (
  J30  w13)) (
  J30  w13)) ∧
  ∀ (u33 : Nat → Value)  (w16 : World), J30  w16 →
  arith .i64 n25 fun n34 =>
  st ((⟨k12, 0, none⟩ : Addr).add 1) (.int .i64 n34) w16 fun w17 =>
  br ((n6 : Int) == 2) (
  br (decide ((n25 : Int) > 2147483647)) (
  arith .i64 n25 fun n35 =>
  arith .i64 (n35 - 4294967296) fun n36 =>
  st ((⟨k12, 0, none⟩ : Addr).add 1) (.int .i64 n36) w17 fun w18 =>
  ldA (⟨k12, 0, none⟩ : Addr) 4 w18 fun g37 =>
  stA Try.prog (⟨k1, 0, none⟩ : Addr) 4 g37 w18 fun w19 =>
  ldA (⟨k1, 0, none⟩ : Addr) 4 w19 fun g38 =>
  R (.tuple #[.agg g38, .int .i64 n26, .int .i64 0]) w19) (
  ldA (⟨k12, 0, none⟩ : Addr) 4 w17 fun g39 =>
  stA Try.prog (⟨k1, 0, none⟩ : Addr) 4 g39 w17 fun w20 =>
  ldA (⟨k1, 0, none⟩ : Addr) 4 w20 fun g40 =>
  R (.tuple #[.agg g40, .int .i64 n26, .int .i64 0]) w20)) (
  ldA (⟨k12, 0, none⟩ : Addr) 4 w17 fun g41 =>
  stA Try.prog (⟨k1, 0, none⟩ : Addr) 4 g41 w17 fun w21 =>
  ldA (⟨k1, 0, none⟩ : Addr) 4 w21 fun g42 =>
  R (.tuple #[.agg g42, .int .i64 n26, .int .i64 0]) w21))) (
  br ((n6 : Int) == 4) (
  call Try.prog 49 #[.slice x0 y0 z0, .int .i64 n7, .int .i64 256] w10 fun v43 w22 =>
  ∃ (p44 : Option Addr) (l44 c44 : Nat) (n45 : Int) (n46 : Int),
  v43 = .tuple #[.slice p44 l44 c44, .int .i64 n45, .int .i64 n46] ∧
  br ((n46 : Int) != 0) (
  ldA (⟨k2, 0, none⟩ : Addr) 4 w22 fun g47 =>
  stA Try.prog (⟨k1, 0, none⟩ : Addr) 4 g47 w22 fun w23 =>
  ldA (⟨k1, 0, none⟩ : Addr) 4 w23 fun g48 =>
  R (.tuple #[.agg g48, .int .i64 x1, .int .i64 n46]) w23) (
  runsT Try.prog (convert 30 9 (.slice p44 l44 c44)) w22 fun s49 w24 =>
  st ((⟨k12, 0, none⟩ : Addr).add 2) (.string s49) w24 fun w25 =>
  ldA (⟨k12, 0, none⟩ : Addr) 4 w25 fun g50 =>
  stA Try.prog (⟨k1, 0, none⟩ : Addr) 4 g50 w25 fun w26 =>
  ldA (⟨k1, 0, none⟩ : Addr) 4 w26 fun g51 =>
  R (.tuple #[.agg g51, .int .i64 n45, .int .i64 0]) w26)) (
  br ((n6 : Int) == 6) (
  call Try.prog 48 #[.slice x0 y0 z0, .int .i64 n7, .int .i64 4] w10 fun v52 w27 =>
  ∃ (n53 : Int) (n54 : Int) (n55 : Int),
  v52 = .tuple #[.int .u64 n53, .int .i64 n54, .int .i64 n55] ∧
  br ((n55 : Int) != 0) (
  ldA (⟨k2, 0, none⟩ : Addr) 4 w27 fun g56 =>
  stA Try.prog (⟨k1, 0, none⟩ : Addr) 4 g56 w27 fun w28 =>
  ldA (⟨k1, 0, none⟩ : Addr) 4 w28 fun g57 =>
  R (.tuple #[.agg g57, .int .i64 x1, .int .i64 n55]) w28) (
  br (decide ((n53 : Int) > 64)) (
  ldA (⟨k2, 0, none⟩ : Addr) 4 w27 fun g58 =>
  stA Try.prog (⟨k1, 0, none⟩ : Addr) 4 g58 w27 fun w29 =>
  ldA (⟨k1, 0, none⟩ : Addr) 4 w29 fun g59 =>
  R (.tuple #[.agg g59, .int .i64 x1, .int .i64 20]) w29) (
  ∃ I60 : Int → Int → World → Nat → Prop, (∃ m61, I60 n54 0 w27 m61) ∧
  ∀ (u62 : Nat → Value) (n63 : Int) (n64 : Int) (w30 : World) (m65 : Nat), I60 n63 n64 w30 m65 →
  arith .i64 n53 fun n66 =>
  br (decide ((n64 : Int) < n66)) (
  arith .i64 (x2 + 1) fun n67 =>
  call Try.prog 39 #[.slice x0 y0 z0, .int .i64 n63, .int .i64 n67] w30 fun v68 w31 =>
  ∃ (g69 : Array Value) (n70 : Int) (n71 : Int),
  v68 = .tuple #[.agg g69, .int .i64 n70, .int .i64 n71] ∧
  new #[.int .i64 0, .int .i64 0, .string ByteArray.empty, .slice none 0 0] 24 w31 fun k72 w32 =>
  stA Try.prog (⟨k72, 0, none⟩ : Addr) 4 g69 w32 fun w33 =>
  br ((n71 : Int) != 0) (
  ldA (⟨k2, 0, none⟩ : Addr) 4 w33 fun g73 =>
  stA Try.prog (⟨k1, 0, none⟩ : Addr) 4 g73 w33 fun w34 =>
  ldA (⟨k1, 0, none⟩ : Addr) 4 w34 fun g74 =>
  R (.tuple #[.agg g74, .int .i64 x1, .int .i64 n71]) w34) (
  ldS ((⟨k12, 0, none⟩ : Addr).add 3) w33 fun p75 l75 c75 =>
  ldA (⟨k72, 0, none⟩ : Addr) 4 w33 fun g76 =>
  (g76 : Array Value).size = 4 ∧
  new g76 24 w33 fun k77 w35 =>
  runsS Try.prog (Builtin.append_ #[22, 22] 22 #[.slice p75 l75 c75, .slice (some (⟨k77, 0, none⟩ : Addr)) 1 1]) w35 fun p78 l78 c78 w36 =>
  st ((⟨k12, 0, none⟩ : Addr).add 3) (.slice p78 l78 c78) w36 fun w37 =>
  arith .i64 (n64 + 1) fun n79 =>
  ∃ m80, m80 < m65 ∧ I60 n70 n79 w37 m80)) (
  ldA (⟨k12, 0, none⟩ : Addr) 4 w30 fun g81 =>
  stA Try.prog (⟨k1, 0, none⟩ : Addr) 4 g81 w30 fun w38 =>
  ldA (⟨k1, 0, none⟩ : Addr) 4 w38 fun g82 =>
  R (.tuple #[.agg g82, .int .i64 n63, .int .i64 0]) w38)))) (
  ldA (⟨k2, 0, none⟩ : Addr) 4 w10 fun g83 =>
  stA Try.prog (⟨k1, 0, none⟩ : Addr) 4 g83 w10 fun w39 =>
  ldA (⟨k1, 0, none⟩ : Addr) 4 w39 fun g84 =>
  R (.tuple #[.agg g84, .int .i64 x1, .int .i64 5]) w39))))))
@[irreducible] def tenonref06_Read_ann : Ann := .seq .none (.seq .none (.seq .none (.seq .none (.seq .none (.seq .none (.seq (.seq .none (.one (.seq .none (.seq .none (.meet [(53, .bool)] .none (.seq (.seq .none (.meet [(14, .int .i64)] .none (.meet [(14, .int .i64)] .none (.seq .none (.seq .none (.meet [] .none .none)))))) (.seq .none (.seq .none (.seq .none (.seq (.seq .none (.seq .none (.seq .none (.seq (.seq .none (.one (.loop [(22, .int .i64), (24, .int .i64)] .none))) .none)))) .none)))))))))) .none))))))
theorem tenonref06_Read_call {x0 : Option Addr} {y0 z0 : Nat} {x1 : Int} {x2 : Int} {R : Value → World → Prop} {w : World} (h : tenonref06_Read x0 y0 z0 x1 x2 R w) : call Try.prog 39 #[.slice x0 y0 z0, .int .i64 x1, .int .i64 x2] w R :=
  call_of_fnW plain mixed Try.func39 tenonref06_Read_ann (Eq.mp (by kernel_rfl : tenonref06_Read x0 y0 z0 x1 x2 R w = fnW Try.prog Try.f39 tenonref06_Read_ann #[.slice x0 y0 z0, .int .i64 x1, .int .i64 x2] R w) h)

def variant_Walk_1 (x0 : Fn) (y0 z0 : Array Value) (x1 : Addr) (R : Value → World → Prop) (w : World) : Prop :=
  ldA x1 4 w fun g1 =>
  call Try.prog 41 #[.agg g1, .int .i64 0, .func x0 y0 z0] w fun v2 w1 =>
  asB v2 fun b3 =>
  R (.tuple #[]) w1
@[irreducible] def variant_Walk_1_ann : Ann := .none
theorem variant_Walk_1_call {x0 : Fn} {y0 z0 : Array Value} {x1 : Addr} {R : Value → World → Prop} {w : World} (h : variant_Walk_1 x0 y0 z0 x1 R w) : call Try.prog 40 #[.func x0 y0 z0, .pointer (some x1)] w R :=
  call_of_fnW plain mixed Try.func40 variant_Walk_1_ann (Eq.mp (by kernel_rfl : variant_Walk_1 x0 y0 z0 x1 R w = fnW Try.prog Try.f40 variant_Walk_1_ann #[.func x0 y0 z0, .pointer (some x1)] R w) h)

def variant_walk (x0 : Array Value) (x1 : Int) (x2 : Fn) (y2 z2 : Array Value) (R : Value → World → Prop) (w : World) : Prop :=
  new x0 24 w fun k1 w1 =>
  ldA (⟨k1, 0, none⟩ : Addr) 4 w1 fun g2 =>
  callV Try.prog x2 y2 z2 #[.int .i64 x1, .agg g2] w1 fun v3 w2 =>
  asB v3 fun b4 =>
  br (!b4) (
  R (.bool false) w2) (
  ldS ((⟨k1, 0, none⟩ : Addr).add 3) w2 fun p5 l5 c5 =>
  ∃ I6 : Int → World → Nat → Prop, (∃ m7, I6 0 w2 m7) ∧
  ∀ (u8 : Nat → Value) (n9 : Int) (w3 : World) (m10 : Nat), I6 n9 w3 m10 →
  br (decide ((n9 : Int) < (l5 : Int))) (
  idx p5 l5 n9 4 fun a11 =>
  ldA a11 4 w3 fun g12 =>
  new #[.int .i64 0, .int .i64 0, .string ByteArray.empty, .slice none 0 0] 24 w3 fun k13 w4 =>
  stA Try.prog (⟨k13, 0, none⟩ : Addr) 4 g12 w4 fun w5 =>
  ldA (⟨k13, 0, none⟩ : Addr) 4 w5 fun g14 =>
  arith .i64 (x1 + 1) fun n15 =>
  call Try.prog 41 #[.agg g14, .int .i64 n15, .func x2 y2 z2] w5 fun v16 w6 =>
  asB v16 fun b17 =>
  br (!b17) (
  R (.bool false) w6) (
  arith .i64 (n9 + 1) fun n18 =>
  ∃ m19, m19 < m10 ∧ I6 n18 w6 m19)) (
  R (.bool true) w3))
@[irreducible] def variant_walk_ann : Ann := .seq .none (.seq .none (.seq (.seq .none (.one (.loop [(17, .int .i64)] .none))) .none))
theorem variant_walk_call {x0 : Array Value} {x1 : Int} {x2 : Fn} {y2 z2 : Array Value} {R : Value → World → Prop} {w : World} (h : variant_walk x0 x1 x2 y2 z2 R w) : call Try.prog 41 #[.agg x0, .int .i64 x1, .func x2 y2 z2] w R :=
  call_of_fnW plain mixed Try.func41 variant_walk_ann (Eq.mp (by kernel_rfl : variant_walk x0 x1 x2 y2 z2 R w = fnW Try.prog Try.f41 variant_walk_ann #[.agg x0, .int .i64 x1, .func x2 y2 z2] R w) h)

def wire_fits (x0 : Int) (R : Value → World → Prop) (w : World) : Prop :=
  br ((x0 : Int) == 1) (
  R (.bool true) w) (
  br ((x0 : Int) == 2) (
  R (.bool true) w) (
  br ((x0 : Int) == 4) (
  R (.bool true) w) (
  R (.bool ((x0 : Int) == 8)) w)))
@[irreducible] def wire_fits_ann : Ann := .none
theorem wire_fits_call {x0 : Int} {R : Value → World → Prop} {w : World} (h : wire_fits x0 R w) : call Try.prog 42 #[.int .i64 x0] w R :=
  call_of_fnW plain mixed Try.func42 wire_fits_ann (Eq.mp (by kernel_rfl : wire_fits x0 R w = fnW Try.prog Try.f42 wire_fits_ann #[.int .i64 x0] R w) h)

def wire_gap (x0 : Int) (x1 : Int) (R : Value → World → Prop) (w : World) : Prop :=
  rem x0 x1 fun n1 =>
  arith .i64 (x1 - n1) fun n2 =>
  rem n2 x1 fun n3 =>
  R (.int .i64 n3) w
@[irreducible] def wire_gap_ann : Ann := .none
theorem wire_gap_call {x0 : Int} {x1 : Int} {R : Value → World → Prop} {w : World} (h : wire_gap x0 x1 R w) : call Try.prog 43 #[.int .i64 x0, .int .i64 x1] w R :=
  call_of_fnW plain mixed Try.func43 wire_gap_ann (Eq.mp (by kernel_rfl : wire_gap x0 x1 R w = fnW Try.prog Try.f43 wire_gap_ann #[.int .i64 x0, .int .i64 x1] R w) h)

def bytes_Clone (x0 : Option Addr) (y0 z0 : Nat) (R : Value → World → Prop) (w : World) : Prop :=
  br x0.isNone (
  R (.slice none 0 0) w) (
  new #[] 5 w fun k1 w1 =>
  runsS Try.prog (Builtin.append_ #[30, 30] 30 #[.slice (some (⟨k1, 0, none⟩ : Addr)) 0 0, .slice x0 y0 z0]) w1 fun p2 l2 c2 w2 =>
  R (.slice p2 l2 c2) w2)
@[irreducible] def bytes_Clone_ann : Ann := .none
theorem bytes_Clone_call {x0 : Option Addr} {y0 z0 : Nat} {R : Value → World → Prop} {w : World} (h : bytes_Clone x0 y0 z0 R w) : call Try.prog 44 #[.slice x0 y0 z0] w R :=
  call_of_fnW plain mixed Try.func44 bytes_Clone_ann (Eq.mp (by kernel_rfl : bytes_Clone x0 y0 z0 R w = fnW Try.prog Try.f44 bytes_Clone_ann #[.slice x0 y0 z0] R w) h)

def wire_Reader_Num (x0 : Option Addr) (x1 : Int) (R : Value → World → Prop) (w : World) : Prop :=
  call Try.prog 42 #[.int .i64 x1] w fun v1 w1 =>
  asB v1 fun b2 =>
  br (!b2) (
  R (.tuple #[.int .u64 0, .int .i64 1]) w1) (
  br x0.isNone (
  R (.tuple #[.int .u64 0, .int .i64 6]) w1) (
  nn x0 fun a3 =>
  ldI .i64 (a3.add 1) w1 fun n4 =>
  call Try.prog 43 #[.int .i64 n4, .int .i64 x1] w1 fun v5 w2 =>
  asI .i64 v5 fun n6 =>
  nn x0 fun a7 =>
  ldS (a7.add 0) w2.drew fun p8 l8 c8 =>
  nn x0 fun a9 =>
  ldI .i64 (a9.add 1) w2.drew fun n10 =>
  arith .i64 ((l8 : Int) - n10) fun n11 =>
  arith .i64 (n6 + x1) fun n12 =>
  br (decide ((n11 : Int) < n12)) (
  R (.tuple #[.int .u64 0, .int .i64 6]) w2.drew) (
  nn x0 fun a13 =>
  ldS (a13.add 0) w2.drew.drew fun p14 l14 c14 =>
  nn x0 fun a15 =>
  ldI .i64 (a15.add 1) w2.drew.drew fun n16 =>
  nn x0 fun a17 =>
  ldI .i64 (a17.add 1) w2.drew.drew fun n18 =>
  arith .i64 (n18 + n6) fun n19 =>
  slc p14 c14 1 n16 n19 fun p20 l20 c20 =>
  ∃ I21 : Int → World → Nat → Prop, (∃ m22, I21 0 w2.drew.drew m22) ∧
  ∀ (u23 : Nat → Value) (n24 : Int) (w3 : World) (m25 : Nat), I21 n24 w3 m25 →
  br (decide ((n24 : Int) < (l20 : Int))) (
  idx p20 l20 n24 1 fun a26 =>
  ldI .u8 a26 w3 fun n27 =>
  br ((n27 : Int) != 0) (
  R (.tuple #[.int .u64 0, .int .i64 5]) w3) (
  arith .i64 (n24 + 1) fun n28 =>
  ∃ m29, m29 < m25 ∧ I21 n28 w3 m29)) (
  ∃ I30 : Int → Int → World → Nat → Prop, (∃ m31, I30 0 0 w3 m31) ∧
  ∀ (u32 : Nat → Value) (n33 : Int) (n34 : Int) (w4 : World) (m35 : Nat), I30 n33 n34 w4 m35 →
  br (decide ((n34 : Int) < x1)) (
  nn x0 fun a36 =>
  ldS (a36.add 0) w4.drew fun p37 l37 c37 =>
  nn x0 fun a38 =>
  ldI .i64 (a38.add 1) w4.drew fun n39 =>
  arith .i64 (n39 + n6) fun n40 =>
  arith .i64 (n40 + n34) fun n41 =>
  idx p37 l37 n41 1 fun a42 =>
  ldI .u8 a42 w4.drew fun n43 =>
  arith .u64 n43 fun n44 =>
  arith .i64 (8 * n34) fun n45 =>
  shl .u64 n44 n45 fun n46 =>
  arith .i64 (n34 + 1) fun n47 =>
  ∃ m48, m48 < m35 ∧ I30 (bitw .or .u64 n33 n46) n47 w4.drew m48) (
  nn x0 fun a49 =>
  ldI .i64 (a49.add 1) w4 fun n50 =>
  arith .i64 (n6 + x1) fun n51 =>
  arith .i64 (n50 + n51) fun n52 =>
  nn x0 fun a53 =>
  st (a53.add 1) (.int .i64 n52) w4 fun w5 =>
  R (.tuple #[.int .u64 n33, .int .i64 0]) w5)))))
@[irreducible] def wire_Reader_Num_ann : Ann := .seq .none (.seq .none (.seq .none (.seq .none (.seq (.seq (.draw [[], [0], [0, 1], [0, 1, 2], [0, 1, 2, 3], [], [5], [5, 6], [5, 6, 7], [0, 1, 2, 3, 4, 5, 6, 7, 8], [], [], [10, 11], [0, 1, 2, 3, 4, 5, 6, 7, 8, 9, 10, 11, 12]] (ol [0, 1, 2, 3, 4, 5, 6, 7, 8, 9, 10, 11, 12, 13] .nil)) .none) (.seq (.seq (.draw [[], [0], [0, 1], [0, 1, 2], [], [4], [4, 5], [4, 5, 6], [], [8], [8, 9], [8, 9, 10], [], [8, 9, 10, 11, 12], [0, 1, 2, 3, 4, 5, 6, 7, 8, 9, 10, 11, 12, 13], [0, 1, 2, 3, 4, 5, 6, 7, 8, 9, 10, 11, 12, 13, 14], []] (ol [0, 1, 2, 3, 4, 5, 6, 7, 8, 9, 10, 11, 12, 13, 14, 15, 16] .nil)) (.one (.loop [(52, .int .i64)] .none))) (.seq .none (.seq (.seq .none (.one (.loop [(9, .int .u64), (60, .int .i64)] (.seq .none (.seq .none (.seq (.one (.seq .none (.draw [[], [], [1], [1, 2], [1, 2, 3], [], [5], [5, 6], [5, 6, 7], [], [5, 6, 7, 8, 9], [], [5, 6, 7, 8, 9, 10, 11], [1, 2, 3, 4, 5, 6, 7, 8, 9, 10, 11, 12], [1, 2, 3, 4, 5, 6, 7, 8, 9, 10, 11, 12, 13], [1, 2, 3, 4, 5, 6, 7, 8, 9, 10, 11, 12, 13, 14], [], [16], [1, 2, 3, 4, 5, 6, 7, 8, 9, 10, 11, 12, 13, 14, 15, 16, 17], [0, 1, 2, 3, 4, 5, 6, 7, 8, 9, 10, 11, 12, 13, 14, 15, 16, 17, 18], [0, 1, 2, 3, 4, 5, 6, 7, 8, 9, 10, 11, 12, 13, 14, 15, 16, 17, 18, 19]] (ol [0, 1, 2, 3, 4, 5, 6, 7, 8, 9, 10, 11, 12, 13, 14, 15, 16, 17, 18, 19, 20] .nil)))) .none)))))) .none)))))))
theorem wire_Reader_Num_call {x0 : Option Addr} {x1 : Int} {R : Value → World → Prop} {w : World} (h : wire_Reader_Num x0 x1 R w) : call Try.prog 45 #[.pointer x0, .int .i64 x1] w R :=
  call_of_fnW plain mixed Try.func45 wire_Reader_Num_ann (Eq.mp (by kernel_rfl : wire_Reader_Num x0 x1 R w = fnW Try.prog Try.f45 wire_Reader_Num_ann #[.pointer x0, .int .i64 x1] R w) h)

def wire_Reader_Text (x0 : Option Addr) (x1 : Int) (R : Value → World → Prop) (w : World) : Prop :=
  br x0.isNone (
  R (.tuple #[.slice none 0 0, .int .i64 6]) w) (
  nn x0 fun a1 =>
  ldI .i64 (a1.add 1) w fun n2 =>
  call Try.prog 45 #[.pointer x0, .int .i64 4] w fun v3 w1 =>
  ∃ (n4 : Int) (n5 : Int),
  v3 = .tuple #[.int .u64 n4, .int .i64 n5] ∧
  ∃ J6 : Int → World → Prop, (
  br ((n5 : Int) != 0) (
  J6 n5 w1) (
  br (decide ((x1 : Int) < 0)) (
  J6 20 w1) (
  arith .u64 x1 fun n7 =>
  br (decide ((n4 : Int) > n7)) (
  J6 20 w1) (
  call Try.prog 47 #[.pointer x0] w1 fun v8 w2 =>
  asI .i64 v8 fun n9 =>
  arith .u64 n9 fun n10 =>
  br (decide ((n4 : Int) > n10)) (
  J6 6 w2) (
  J6 n5 w2))))) ∧
  ∀ (u11 : Nat → Value) (n12 : Int) (w3 : World), J6 n12 w3 →
  br ((n12 : Int) != 0) (
  nn x0 fun a13 =>
  st (a13.add 1) (.int .i64 n2) w3 fun w4 =>
  R (.tuple #[.slice none 0 0, .int .i64 n12]) w4) (
  nn x0 fun a14 =>
  ldS (a14.add 0) w3.drew fun p15 l15 c15 =>
  nn x0 fun a16 =>
  ldI .i64 (a16.add 1) w3.drew fun n17 =>
  nn x0 fun a18 =>
  ldI .i64 (a18.add 1) w3.drew fun n19 =>
  arith .i64 n4 fun n20 =>
  arith .i64 (n19 + n20) fun n21 =>
  slc p15 c15 1 n17 n21 fun p22 l22 c22 =>
  call Try.prog 44 #[.slice p22 l22 c22] w3.drew fun v23 w5 =>
  asS v23 fun p24 l24 c24 =>
  nn x0 fun a25 =>
  ldI .i64 (a25.add 1) w5 fun n26 =>
  arith .i64 n4 fun n27 =>
  arith .i64 (n26 + n27) fun n28 =>
  nn x0 fun a29 =>
  st (a29.add 1) (.int .i64 n28) w5 fun w6 =>
  R (.tuple #[.slice p24 l24 c24, .int .i64 0]) w6))
@[irreducible] def wire_Reader_Text_ann : Ann := .seq .none (.seq .none (.seq .none (.seq .none (.meet [(8, .int .i64)] .none (.seq .none (.seq (.draw [[], [0], [0, 1], [0, 1, 2], [], [4], [4, 5], [4, 5, 6], [], [8], [8, 9], [8, 9, 10], [], [12], [8, 9, 10, 11, 12, 13], [0, 1, 2, 3, 4, 5, 6, 7, 8, 9, 10, 11, 12, 13, 14], [0, 1, 2, 3, 4, 5, 6, 7, 8, 9, 10, 11, 12, 13, 14, 15], [0, 1, 2, 3, 4, 5, 6, 7, 8, 9, 10, 11, 12, 13, 14, 15, 16]] (ol [0, 1, 2, 3, 4, 5, 6, 7, 8, 9, 10, 11, 12, 13, 14, 15, 16, 17] .nil)) .none))))))
theorem wire_Reader_Text_call {x0 : Option Addr} {x1 : Int} {R : Value → World → Prop} {w : World} (h : wire_Reader_Text x0 x1 R w) : call Try.prog 46 #[.pointer x0, .int .i64 x1] w R :=
  call_of_fnW plain mixed Try.func46 wire_Reader_Text_ann (Eq.mp (by kernel_rfl : wire_Reader_Text x0 x1 R w = fnW Try.prog Try.f46 wire_Reader_Text_ann #[.pointer x0, .int .i64 x1] R w) h)

def wire_Reader_Left (x0 : Option Addr) (R : Value → World → Prop) (w : World) : Prop :=
  br x0.isNone (
  R (.int .i64 0) w) (
  nn x0 fun a1 =>
  ldS (a1.add 0) w.drew fun p2 l2 c2 =>
  nn x0 fun a3 =>
  ldI .i64 (a3.add 1) w.drew fun n4 =>
  arith .i64 ((l2 : Int) - n4) fun n5 =>
  R (.int .i64 n5) w.drew)
@[irreducible] def wire_Reader_Left_ann : Ann := .seq .none (.seq .none (.seq (.draw [[], [0], [0, 1], [0, 1, 2], [0, 1, 2, 3], [], [5], [5, 6], [5, 6, 7], [0, 1, 2, 3, 4, 5, 6, 7, 8], [0, 1, 2, 3, 4, 5, 6, 7, 8, 9]] (ol [0, 1, 2, 3, 4, 5, 6, 7, 8, 9, 10] .nil)) .none))
theorem wire_Reader_Left_call {x0 : Option Addr} {R : Value → World → Prop} {w : World} (h : wire_Reader_Left x0 R w) : call Try.prog 47 #[.pointer x0] w R :=
  call_of_fnW plain mixed Try.func47 wire_Reader_Left_ann (Eq.mp (by kernel_rfl : wire_Reader_Left x0 R w = fnW Try.prog Try.f47 wire_Reader_Left_ann #[.pointer x0] R w) h)

def tenonref05_Read (x0 : Option Addr) (y0 z0 : Nat) (x1 : Int) (x2 : Int) (R : Value → World → Prop) (w : World) : Prop :=
  call Try.prog 50 #[.int .i64 x2] w fun v1 w1 =>
  asB v1 fun b2 =>
  br (!b2) (
  R (.tuple #[.int .u64 0, .int .i64 x1, .int .i64 1]) w1) (
  ∃ I3 : Int → World → Nat → Prop, (∃ m4, I3 x1 w1 m4) ∧
  ∀ (u5 : Nat → Value) (n6 : Int) (w2 : World) (m7 : Nat), I3 n6 w2 m7 →
  rem n6 x2 fun n8 =>
  br ((n8 : Int) != 0) (
  arith .i64 (n6 + 1) fun n9 =>
  ∃ m10, m10 < m7 ∧ I3 n9 w2 m10) (
  arith .i64 (n6 + x2) fun n11 =>
  br (decide ((n11 : Int) > (y0 : Int))) (
  R (.tuple #[.int .u64 0, .int .i64 x1, .int .i64 6]) w2) (
  ∃ I12 : Int → World → Nat → Prop, (∃ m13, I12 x1 w2 m13) ∧
  ∀ (u14 : Nat → Value) (n15 : Int) (w3 : World) (m16 : Nat), I12 n15 w3 m16 →
  br (decide ((n15 : Int) < n6)) (
  idx x0 y0 n15 1 fun a17 =>
  ldI .u8 a17 w3 fun n18 =>
  br ((n18 : Int) != 0) (
  R (.tuple #[.int .u64 0, .int .i64 x1, .int .i64 5]) w3) (
  arith .i64 (n15 + 1) fun n19 =>
  ∃ m20, m20 < m16 ∧ I12 n19 w3 m20)) (
  arith .i64 (x2 - 1) fun n21 =>
  ∃ I22 : Int → Int → World → Nat → Prop, (∃ m23, I22 0 n21 w3 m23) ∧
  ∀ (u24 : Nat → Value) (n25 : Int) (n26 : Int) (w4 : World) (m27 : Nat), I22 n25 n26 w4 m27 →
  br (decide ((n26 : Int) ≥ 0)) (
  arith .u64 (n25 * 256) fun n28 =>
  arith .i64 (n6 + n26) fun n29 =>
  idx x0 y0 n29 1 fun a30 =>
  ldI .u8 a30 w4 fun n31 =>
  arith .u64 n31 fun n32 =>
  arith .u64 (n28 + n32) fun n33 =>
  arith .i64 (n26 - 1) fun n34 =>
  ∃ m35, m35 < m27 ∧ I22 n33 n34 w4 m35) (
  arith .i64 (n6 + x2) fun n36 =>
  R (.tuple #[.int .u64 n25, .int .i64 n36, .int .i64 0]) w4)))))
@[irreducible] def tenonref05_Read_ann : Ann := .seq .none (.seq .none (.seq .none (.seq (.one (.loop [(9, .int .i64)] .none)) (.seq .none (.seq (.seq .none (.one (.loop [(10, .int .i64)] .none))) (.seq .none (.seq (.seq .none (.one (.loop [(11, .int .u64), (12, .int .i64)] .none))) .none)))))))
theorem tenonref05_Read_call {x0 : Option Addr} {y0 z0 : Nat} {x1 : Int} {x2 : Int} {R : Value → World → Prop} {w : World} (h : tenonref05_Read x0 y0 z0 x1 x2 R w) : call Try.prog 48 #[.slice x0 y0 z0, .int .i64 x1, .int .i64 x2] w R :=
  call_of_fnW plain mixed Try.func48 tenonref05_Read_ann (Eq.mp (by kernel_rfl : tenonref05_Read x0 y0 z0 x1 x2 R w = fnW Try.prog Try.f48 tenonref05_Read_ann #[.slice x0 y0 z0, .int .i64 x1, .int .i64 x2] R w) h)

def tenonref05_ReadText (x0 : Option Addr) (y0 z0 : Nat) (x1 : Int) (x2 : Int) (R : Value → World → Prop) (w : World) : Prop :=
  call Try.prog 48 #[.slice x0 y0 z0, .int .i64 x1, .int .i64 4] w fun v1 w1 =>
  ∃ (n2 : Int) (n3 : Int) (n4 : Int),
  v1 = .tuple #[.int .u64 n2, .int .i64 n3, .int .i64 n4] ∧
  br ((n4 : Int) != 0) (
  R (.tuple #[.slice none 0 0, .int .i64 x1, .int .i64 n4]) w1) (
  br (decide ((x2 : Int) < 0)) (
  R (.tuple #[.slice none 0 0, .int .i64 x1, .int .i64 20]) w1) (
  arith .u64 x2 fun n5 =>
  br (decide ((n2 : Int) > n5)) (
  R (.tuple #[.slice none 0 0, .int .i64 x1, .int .i64 20]) w1) (
  arith .i64 ((y0 : Int) - n3) fun n6 =>
  arith .u64 n6 fun n7 =>
  br (decide ((n2 : Int) > n7)) (
  R (.tuple #[.slice none 0 0, .int .i64 x1, .int .i64 6]) w1) (
  arith .i64 n2 fun n8 =>
  arith .i64 (n3 + n8) fun n9 =>
  slc x0 z0 1 n3 n9 fun p10 l10 c10 =>
  runsS Try.prog (Builtin.append_ #[30, 30] 30 #[.slice none 0 0, .slice p10 l10 c10]) w1 fun p11 l11 c11 w2 =>
  arith .i64 n2 fun n12 =>
  arith .i64 (n3 + n12) fun n13 =>
  R (.tuple #[.slice p11 l11 c11, .int .i64 n13, .int .i64 0]) w2))))
@[irreducible] def tenonref05_ReadText_ann : Ann := .none
theorem tenonref05_ReadText_call {x0 : Option Addr} {y0 z0 : Nat} {x1 : Int} {x2 : Int} {R : Value → World → Prop} {w : World} (h : tenonref05_ReadText x0 y0 z0 x1 x2 R w) : call Try.prog 49 #[.slice x0 y0 z0, .int .i64 x1, .int .i64 x2] w R :=
  call_of_fnW plain mixed Try.func49 tenonref05_ReadText_ann (Eq.mp (by kernel_rfl : tenonref05_ReadText x0 y0 z0 x1 x2 R w = fnW Try.prog Try.f49 tenonref05_ReadText_ann #[.slice x0 y0 z0, .int .i64 x1, .int .i64 x2] R w) h)

def tenonref05_Fits (x0 : Int) (R : Value → World → Prop) (w : World) : Prop :=
  br ((x0 : Int) == 1) (
  R (.bool true) w) (
  br ((x0 : Int) == 2) (
  R (.bool true) w) (
  br ((x0 : Int) == 4) (
  R (.bool true) w) (
  R (.bool ((x0 : Int) == 8)) w)))
@[irreducible] def tenonref05_Fits_ann : Ann := .none
theorem tenonref05_Fits_call {x0 : Int} {R : Value → World → Prop} {w : World} (h : tenonref05_Fits x0 R w) : call Try.prog 50 #[.int .i64 x0] w R :=
  call_of_fnW plain mixed Try.func50 tenonref05_Fits_ann (Eq.mp (by kernel_rfl : tenonref05_Fits x0 R w = fnW Try.prog Try.f50 tenonref05_Fits_ann #[.int .i64 x0] R w) h)

end Go.Proofs.Ytmecgkeplkchcaa
