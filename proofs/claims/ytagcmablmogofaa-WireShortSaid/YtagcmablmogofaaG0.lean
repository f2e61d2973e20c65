/- The shallow forms of the functions of the translation, printed by a program of this repository, each proved sound. No conditions. -/
import Derived.Test.YtagcmablmogofaaChecked
import Derived.Test.YtagcmablmogofaaSp5
import Derived.Eval
set_option linter.unusedVariables false
namespace Go.Proofs.Ytagcmablmogofaa
open Go.Sp
theorem plain : Plain Try.prog := by
  have h : (Try.prog.funcs.toList.all fun fn => !(fn.name == "runtime.NumGoroutine")) = true := by kernel_rfl
  intro f fn hf
  have := List.all_eq_true.1 h fn (by simpa using Array.mem_of_getElem? hf)
  simpa using this
theorem mixed : Try.prog.follows .mixedOrders = true := Checked.mixed Try.checked
abbrev T_tenonlaw05_Item : Nat := 30
abbrev T_api_Errno : Nat := 32
abbrev T_wire_Writer : Nat := 59
abbrev T_wire_Reader : Nat := 61
abbrev T_int64 : Nat := 2
abbrev T_int : Nat := 3
abbrev T_bool : Nat := 4
abbrev T_uint8 : Nat := 5
abbrev T_string : Nat := 9
abbrev T_uintptr : Nat := 12
abbrev T_int32 : Nat := 21
abbrev T_sl_tenonlaw05_Item : Nat := 22
abbrev T_sl_uint8 : Nat := 27
abbrev T_uint64 : Nat := 28
abbrev T_sl_int : Nat := 41
abbrev T_uint32 : Nat := 68
abbrev T_ptr_uint8 : Nat := 72
abbrev fn_tenonlaw05_WireWrites : Nat := 3
abbrev fn_tenonlaw05_WireAligned : Nat := 4
abbrev fn_tenonlaw05_WireShort : Nat := 5
abbrev fn_tenonlaw05_WireNil : Nat := 6
abbrev fn_tenonlaw05_WireReads : Nat := 7
abbrev fn_tenonlaw05_WireBack : Nat := 8
abbrev fn_tenonlaw05_great : Nat := 9
abbrev fn_tenonlaw05_awake : Nat := 10
abbrev fn_wire_NewWriter : Nat := 11
abbrev fn_tenonref01_Lent : Nat := 12
abbrev fn_wire_Writer_Text : Nat := 13
abbrev fn_tenonref01_Kept : Nat := 14
abbrev fn_tenonref05_Text : Nat := 15
abbrev fn_wire_Writer_Num : Nat := 16
abbrev fn_tenonref05_Fits : Nat := 17
abbrev fn_tenonref05_Room : Nat := 18
abbrev fn_tenonref05_Num : Nat := 19
abbrev fn_wire_Writer_Bytes : Nat := 20
abbrev fn_tenonref01_SameBytes : Nat := 21
abbrev fn_tenonref01_Pick : Nat := 22
abbrev fn_wire_NewReader : Nat := 23
abbrev fn_wire_Reader_Num : Nat := 24
abbrev fn_wire_Reader_Text : Nat := 25
abbrev fn_wire_Reader_Left : Nat := 26
abbrev fn_wire_Reader_End : Nat := 27
abbrev fn_tenonref05_ReadText : Nat := 28
abbrev fn_tenonref05_Read : Nat := 29
abbrev fn_wire_fits : Nat := 30
abbrev fn_wire_gap : Nat := 31
abbrev fn_bytes_Clone : Nat := 32

def tenonlaw05_WireWrites (x0 : Option Addr) (y0 z0 : Nat) (R : Value → World → Prop) (w : World) : Prop :=
  call Try.prog 9 #[.slice x0 y0 z0] w fun v1 w1 =>
  asB v1 fun b2 =>
  br b2 (
  call Try.prog 10 #[] w1 fun v3 w2 =>
  asB v3 fun b4 =>
  R (.bool b4) w2) (
  call Try.prog 11 #[] w1 fun v5 w3 =>
  asP v5 fun p6 =>
  ∃ J7 : Option Addr → Nat → Nat → World → Prop, (
  ∃ I8 : Option Addr → Nat → Nat → Int → World → Nat → Prop, (∃ m9, I8 none 0 0 0 w3 m9) ∧
  ∀ (u10 : Nat → Value) (p11 : Option Addr) (l11 c11 : Nat) (n12 : Int) (w4 : World) (m13 : Nat), I8 p11 l11 c11 n12 w4 m13 →
  br (decide ((n12 : Int) < (y0 : Int))) (
  br (decide ((n12 : Int) < 100)) (
  idx x0 y0 n12 4 fun a14 =>
  ldA a14 4 w4 fun g15 =>
  new #[.bool false, .int .u64 0, .int .i64 0, .slice none 0 0] 30 w4 fun k16 w5 =>
  stA Try.prog (⟨k16, 0, none⟩ : Addr) 4 g15 w5 fun w6 =>
  ldB ((⟨k16, 0, none⟩ : Addr).add 0) w6 fun b17 =>
  br b17 (
  ldS ((⟨k16, 0, none⟩ : Addr).add 3) w6 fun p18 l18 c18 =>
  call Try.prog 12 #[.slice p18 l18 c18] w6 fun v19 w7 =>
  asS v19 fun p20 l20 c20 =>
  call Try.prog 13 #[.pointer p6, .slice p20 l20 c20] w7 fun v21 w8 =>
  asI .i64 v21 fun n22 =>
  ldS ((⟨k16, 0, none⟩ : Addr).add 3) w8 fun p23 l23 c23 =>
  call Try.prog 14 #[.slice p20 l20 c20, .slice p23 l23 c23] w8 fun v24 w9 =>
  asB v24 fun b25 =>
  br (!b25) (
  R (.bool false) w9) (
  ldS ((⟨k16, 0, none⟩ : Addr).add 3) w9 fun p26 l26 c26 =>
  br (!(((n22 : Int) == 0) == (decide ((l26 : Int) ≤ 65535)))) (
  R (.bool false) w9) (
  br ((n22 : Int) != 0) (
  br ((n22 : Int) != 1) (
  R (.bool false) w9) (
  br ((n22 : Int) == 0) (
  ldS ((⟨k16, 0, none⟩ : Addr).add 3) w9 fun p27 l27 c27 =>
  call Try.prog 15 #[.slice p11 l11 c11, .slice p27 l27 c27] w9 fun v28 w10 =>
  asS v28 fun p29 l29 c29 =>
  arith .i64 (n12 + 1) fun n30 =>
  ∃ m31, m31 < m13 ∧ I8 p29 l29 c29 n30 w10 m31) (
  arith .i64 (n12 + 1) fun n32 =>
  ∃ m33, m33 < m13 ∧ I8 p11 l11 c11 n32 w9 m33))) (
  br ((n22 : Int) == 0) (
  ldS ((⟨k16, 0, none⟩ : Addr).add 3) w9 fun p34 l34 c34 =>
  call Try.prog 15 #[.slice p11 l11 c11, .slice p34 l34 c34] w9 fun v35 w11 =>
  asS v35 fun p36 l36 c36 =>
  arith .i64 (n12 + 1) fun n37 =>
  ∃ m38, m38 < m13 ∧ I8 p36 l36 c36 n37 w11 m38) (
  arith .i64 (n12 + 1) fun n39 =>
  ∃ m40, m40 < m13 ∧ I8 p11 l11 c11 n39 w9 m40))))) (
  ldI .u64 ((⟨k16, 0, none⟩ : Addr).add 1) w6 fun n41 =>
  ldI .i64 ((⟨k16, 0, none⟩ : Addr).add 2) w6 fun n42 =>
  call Try.prog 16 #[.pointer p6, .int .u64 n41, .int .i64 n42] w6 fun v43 w12 =>
  asI .i64 v43 fun n44 =>
  ∃ J45 : Bool → World → Prop, (
  ldI .i64 ((⟨k16, 0, none⟩ : Addr).add 2) w12 fun n46 =>
  call Try.prog 17 #[.int .i64 n46] w12 fun v47 w13 =>
  asB v47 fun b48 =>
  br b48 (
  ldI .u64 ((⟨k16, 0, none⟩ : Addr).add 1) w13 fun n49 =>
  ldI .i64 ((⟨k16, 0, none⟩ : Addr).add 2) w13 fun n50 =>
  call Try.prog 18 #[.int .u64 n49, .int .i64 n50] w13 fun v51 w14 =>
  asB v51 fun b52 =>
  J45 b52 w14) (
  J45 false w13)) ∧
  ∀ (u53 : Nat → Value) (b54 : Bool) (w15 : World), J45 b54 w15 →
  br (!(((n44 : Int) == 0) == b54)) (
  R (.bool false) w15) (
  br ((n44 : Int) != 0) (
  br ((n44 : Int) != 1) (
  R (.bool false) w15) (
  br b54 (
  ldI .u64 ((⟨k16, 0, none⟩ : Addr).add 1) w15 fun n55 =>
  ldI .i64 ((⟨k16, 0, none⟩ : Addr).add 2) w15 fun n56 =>
  call Try.prog 19 #[.slice p11 l11 c11, .int .u64 n55, .int .i64 n56] w15 fun v57 w16 =>
  asS v57 fun p58 l58 c58 =>
  arith .i64 (n12 + 1) fun n59 =>
  ∃ m60, m60 < m13 ∧ I8 p58 l58 c58 n59 w16 m60) (
  arith .i64 (n12 + 1) fun n61 =>
  ∃ m62, m62 < m13 ∧ I8 p11 l11 c11 n61 w15 m62))) (
  br b54 (
  ldI .u64 ((⟨k16, 0, none⟩ : Addr).add 1) w15 fun n63 =>
  ldI .i64 ((⟨k16, 0, none⟩ : Addr).add 2) w15 fun n64 =>
  call Try.prog 19 #[.slice p11 l11 c11, .int .u64 n63, .int .i64 n64] w15 fun v65 w17 =>
  asS v65 fun p66 l66 c66 =>
  arith .i64 (n12 + 1) fun n67 =>
  ∃ m68, m68 < m13 ∧ I8 p66 l66 c66 n67 w17 m68) (
  arith .i64 (n12 + 1) fun n69 =>
  ∃ m70, m70 < m13 ∧ I8 p11 l11 c11 n69 w15 m70))))) (
  J7 p11 l11 c11 w4)) (
  J7 p11 l11 c11 w4)) ∧
  ∀ (u71 : Nat → Value) (p72 : Option Addr) (l72 c72 : Nat) (w18 : World), J7 p72 l72 c72 w18 →
  call Try.prog 20 #[.pointer p6] w18 fun v73 w19 =>
  asS v73 fun p74 l74 c74 =>
  call Try.prog 21 #[.slice p74 l74 c74, .slice p72 l72 c72] w19 fun v75 w20 =>
  asB v75 fun b76 =>
  br (!b76) (
  R (.bool false) w20) (
  ∃ I77 : Int → World → Nat → Prop, (∃ m78, I77 0 w20 m78) ∧
  ∀ (u79 : Nat → Value) (n80 : Int) (w21 : World) (m81 : Nat), I77 n80 w21 m81 →
  br (decide ((n80 : Int) < (l74 : Int))) (
  idx p74 l74 n80 1 fun a82 =>
  ldI .u8 a82 w21 fun n83 =>
  arith .u8 (n83 + 1) fun n84 =>
  idx p74 l74 n80 1 fun a85 =>
  st a85 (.int .u8 n84) w21 fun w22 =>
  arith .i64 (n80 + 1) fun n86 =>
  ∃ m87, m87 < m81 ∧ I77 n86 w22 m87) (
  call Try.prog 20 #[.pointer p6] w21 fun v88 w23 =>
  asS v88 fun p89 l89 c89 =>
  call Try.prog 21 #[.slice p89 l89 c89, .slice p72 l72 c72] w23 fun v90 w24 =>
  asB v90 fun b91 =>
  br b91 (
  call Try.prog 10 #[] w24 fun v92 w25 =>
  asB v92 fun b93 =>
  R (.bool b93) w25) (
  R (.bool false) w24))))
@[irreducible] def tenonlaw05_WireWrites_ann : Ann := .seq .none (.seq .none (.seq .none (.seq .none (.meet [(4, .slice)] (.seq .none (.one (.loop [(4, .slice), (5, .int .i64)] (.seq .none (.seq (.one (.seq .none (.seq .none (.seq .none (.meet [(10, .bool)] .none .none))))) .none))))) (.seq .none (.seq .none (.seq (.seq .none (.one (.loop [(12, .int .i64)] .none))) .none)))))))
theorem tenonlaw05_WireWrites_call {x0 : Option Addr} {y0 z0 : Nat} {R : Value → World → Prop} {w : World} (h : tenonlaw05_WireWrites x0 y0 z0 R w) : call Try.prog 3 #[.slice x0 y0 z0] w R :=
  call_of_fnW plain mixed Try.func3 tenonlaw05_WireWrites_ann (Eq.mp (by kernel_rfl : tenonlaw05_WireWrites x0 y0 z0 R w = fnW Try.prog Try.f3 tenonlaw05_WireWrites_ann #[.slice x0 y0 z0] R w) h)

def tenonlaw05_WireAligned (x0 : Option Addr) (y0 z0 : Nat) (R : Value → World → Prop) (w : World) : Prop :=
  call Try.prog 11 #[] w fun v1 w1 =>
  asP v1 fun p2 =>
  ∃ I3 : Int → World → Nat → Prop, (∃ m4, I3 0 w1 m4) ∧
  ∀ (u5 : Nat → Value) (n6 : Int) (w2 : World) (m7 : Nat), I3 n6 w2 m7 →
  br (decide ((n6 : Int) < (y0 : Int))) (
  br (decide ((n6 : Int) < 60)) (
  idx x0 y0 n6 4 fun a8 =>
  ldB (a8.add 0) w2 fun b9 =>
  br b9 (
  arith .i64 (n6 + 1) fun n10 =>
  ∃ m11, m11 < m7 ∧ I3 n10 w2 m11) (
  call Try.prog 20 #[.pointer p2] w2 fun v12 w3 =>
  asS v12 fun p13 l13 c13 =>
  idx x0 y0 n6 4 fun a14 =>
  ldI .u64 (a14.add 1) w3.drew fun n15 =>
  idx x0 y0 n6 4 fun a16 =>
  ldI .i64 (a16.add 2) w3.drew fun n17 =>
  call Try.prog 16 #[.pointer p2, .int .u64 n15, .int .i64 n17] w3.drew fun v18 w4 =>
  asI .i64 v18 fun n19 =>
  br ((n19 : Int) != 0) (
  arith .i64 (n6 + 1) fun n20 =>
  ∃ m21, m21 < m7 ∧ I3 n20 w4 m21) (
  call Try.prog 20 #[.pointer p2] w4 fun v22 w5 =>
  asS v22 fun p23 l23 c23 =>
  idx x0 y0 n6 4 fun a24 =>
  ldI .i64 (a24.add 2) w5 fun n25 =>
  arith .i64 ((l23 : Int) - n25) fun n26 =>
  idx x0 y0 n6 4 fun a27 =>
  ldI .i64 (a27.add 2) w5 fun n28 =>
  br (decide ((n28 : Int) < 1)) (
  R (.bool false) w5) (
  idx x0 y0 n6 4 fun a29 =>
  ldI .i64 (a29.add 2) w5 fun n30 =>
  rem n26 n30 fun n31 =>
  br ((n31 : Int) != 0) (
  R (.bool false) w5) (
  br (decide ((n26 : Int) < (l13 : Int))) (
  R (.bool false) w5) (
  arith .i64 (n26 - (l13 : Int)) fun n32 =>
  idx x0 y0 n6 4 fun a33 =>
  ldI .i64 (a33.add 2) w5 fun n34 =>
  br (decide ((n32 : Int) ≥ n34)) (
  R (.bool false) w5) (
  ∃ I35 : Int → World → Nat → Prop, (∃ m36, I35 ((l13 : Int)) w5 m36) ∧
  ∀ (u37 : Nat → Value) (n38 : Int) (w6 : World) (m39 : Nat), I35 n38 w6 m39 →
  br (decide ((n38 : Int) < n26)) (
  br (decide ((n38 : Int) ≥ (l23 : Int))) (
  R (.bool false) w6) (
  idx p23 l23 n38 1 fun a40 =>
  ldI .u8 a40 w6 fun n41 =>
  br ((n41 : Int) != 0) (
  R (.bool false) w6) (
  arith .i64 (n38 + 1) fun n42 =>
  ∃ m43, m43 < m39 ∧ I35 n42 w6 m43))) (
  arith .i64 (n6 + 1) fun n44 =>
  ∃ m45, m45 < m7 ∧ I3 n44 w6 m45)))))))) (
  call Try.prog 10 #[] w2 fun v46 w7 =>
  asB v46 fun b47 =>
  R (.bool b47) w7)) (
  call Try.prog 10 #[] w2 fun v48 w8 =>
  asB v48 fun b49 =>
  R (.bool b49) w8)
@[irreducible] def tenonlaw05_WireAligned_ann : Ann := .seq .none (.seq .none (.seq (.seq .none (.one (.loop [(4, .int .i64)] (.seq .none (.seq (.one (.seq .none (.seq .none (.seq (.seq (.draw [[], [], [], [1, 2], [1, 2, 3], [1, 2, 3, 4], [], [], [6, 7], [6, 7, 8], [6, 7, 8, 9], [0, 1, 2, 3, 4, 5, 6, 7, 8, 9, 10], [0, 1, 2, 3, 4, 5, 6, 7, 8, 9, 10, 11]] [0, 1, 2, 3, 4, 5, 6, 7, 8, 9, 10, 11, 12]) .none) (.seq .none (.seq .none (.seq .none (.seq .none (.one (.loop [(8, .int .i64)] .none)))))))))) .none))))) .none))
theorem tenonlaw05_WireAligned_call {x0 : Option Addr} {y0 z0 : Nat} {R : Value → World → Prop} {w : World} (h : tenonlaw05_WireAligned x0 y0 z0 R w) : call Try.prog 4 #[.slice x0 y0 z0] w R :=
  call_of_fnW plain mixed Try.func4 tenonlaw05_WireAligned_ann (Eq.mp (by kernel_rfl : tenonlaw05_WireAligned x0 y0 z0 R w = fnW Try.prog Try.f4 tenonlaw05_WireAligned_ann #[.slice x0 y0 z0] R w) h)

def tenonlaw05_WireShort (x0 : Option Addr) (y0 z0 : Nat) (x1 : Int) (R : Value → World → Prop) (w : World) : Prop :=
  call Try.prog 11 #[] w fun v1 w1 =>
  asP v1 fun p2 =>
  ∃ J3 : Option Addr → Nat → Nat → Option Addr → Nat → Nat → World → Prop, (
  ∃ I4 : Option Addr → Nat → Nat → Option Addr → Nat → Nat → Int → World → Nat → Prop, (∃ m5, I4 none 0 0 none 0 0 0 w1 m5) ∧
  ∀ (u6 : Nat → Value) (p7 : Option Addr) (l7 c7 : Nat) (p8 : Option Addr) (l8 c8 : Nat) (n9 : Int) (w2 : World) (m10 : Nat), I4 p7 l7 c7 p8 l8 c8 n9 w2 m10 →
  br (decide ((n9 : Int) < (y0 : Int))) (
  br (decide ((n9 : Int) < 40)) (
  idx x0 y0 n9 4 fun a11 =>
  ldI .u64 (a11.add 1) w2.drew fun n12 =>
  idx x0 y0 n9 4 fun a13 =>
  ldI .i64 (a13.add 2) w2.drew fun n14 =>
  call Try.prog 16 #[.pointer p2, .int .u64 n12, .int .i64 n14] w2.drew fun v15 w3 =>
  asI .i64 v15 fun n16 =>
  br ((n16 : Int) == 0) (
  idx x0 y0 n9 4 fun a17 =>
  ldA a17 4 w3 fun g18 =>
  g18.size = 4 ∧
  new g18 30 w3 fun k19 w4 =>
  runsS Try.prog (Builtin.append_ #[22, 22] 22 #[.slice p8 l8 c8, .slice (some (⟨k19, 0, none⟩ : Addr)) 1 1]) w4 fun p20 l20 c20 w5 =>
  call Try.prog 20 #[.pointer p2] w5 fun v21 w6 =>
  asS v21 fun p22 l22 c22 =>
  new #[.int .i64 ((l22 : Int))] 3 w6 fun k23 w7 =>
  runsS Try.prog (Builtin.append_ #[41, 41] 41 #[.slice p7 l7 c7, .slice (some (⟨k23, 0, none⟩ : Addr)) 1 1]) w7 fun p24 l24 c24 w8 =>
  arith .i64 (n9 + 1) fun n25 =>
  ∃ m26, m26 < m10 ∧ I4 p24 l24 c24 p20 l20 c20 n25 w8 m26) (
  arith .i64 (n9 + 1) fun n27 =>
  ∃ m28, m28 < m10 ∧ I4 p7 l7 c7 p8 l8 c8 n27 w3 m28)) (
  J3 p7 l7 c7 p8 l8 c8 w2)) (
  J3 p7 l7 c7 p8 l8 c8 w2)) ∧
  ∀ (u29 : Nat → Value) (p30 : Option Addr) (l30 c30 : Nat) (p31 : Option Addr) (l31 c31 : Nat) (w9 : World), J3 p30 l30 c30 p31 l31 c31 w9 →
  call Try.prog 20 #[.pointer p2] w9 fun v32 w10 =>
  asS v32 fun p33 l33 c33 =>
  arith .i64 ((l33 : Int) + 1) fun n34 =>
  call Try.prog 22 #[.int .i64 x1, .int .i64 n34] w10 fun v35 w11 =>
  asI .i64 v35 fun n36 =>
  slc p33 c33 1 0 n36 fun p37 l37 c37 =>
  call Try.prog 23 #[.slice p37 l37 c37] w11 fun v38 w12 =>
  asP v38 fun p39 =>
  ∃ I40 : Int → World → Nat → Prop, (∃ m41, I40 0 w12 m41) ∧
  ∀ (u42 : Nat → Value) (n43 : Int) (w13 : World) (m44 : Nat), I40 n43 w13 m44 →
  br (decide ((n43 : Int) < (l31 : Int))) (
  idx p31 l31 n43 4 fun a45 =>
  ldI .i64 (a45.add 2) w13 fun n46 =>
  call Try.prog 24 #[.pointer p39, .int .i64 n46] w13 fun v47 w14 =>
  ∃ (n48 : Int) (n49 : Int),
  v47 = .tuple #[.int .u64 n48, .int .i64 n49] ∧
  idx p30 l30 n43 1 fun a50 =>
  ldI .i64 a50 w14 fun n51 =>
  br (decide ((n51 : Int) ≤ n36)) (
  br ((n49 : Int) != 0) (
  R (.bool false) w14) (
  idx p31 l31 n43 4 fun a52 =>
  ldI .u64 (a52.add 1) w14 fun n53 =>
  br ((n48 : Int) != n53) (
  R (.bool false) w14) (
  idx p30 l30 n43 1 fun a54 =>
  ldI .i64 a54 w14 fun n55 =>
  br (decide ((n55 : Int) > n36)) (
  br ((n49 : Int) == 6) (
  call Try.prog 10 #[] w14 fun v56 w15 =>
  asB v56 fun b57 =>
  R (.bool b57) w15) (
  R (.bool false) w14)) (
  arith .i64 (n43 + 1) fun n58 =>
  ∃ m59, m59 < m44 ∧ I40 n58 w14 m59)))) (
  idx p30 l30 n43 1 fun a60 =>
  ldI .i64 a60 w14 fun n61 =>
  br (decide ((n61 : Int) > n36)) (
  br ((n49 : Int) == 6) (
  call Try.prog 10 #[] w14 fun v62 w16 =>
  asB v62 fun b63 =>
  R (.bool b63) w16) (
  R (.bool false) w14)) (
  arith .i64 (n43 + 1) fun n64 =>
  ∃ m65, m65 < m44 ∧ I40 n64 w14 m65))) (
  call Try.prog 10 #[] w13 fun v66 w17 =>
  asB v66 fun b67 =>
  R (.bool b67) w17)
@[irreducible] def tenonlaw05_WireShort_ann : Ann := .seq .none (.seq .none (.seq .none (.seq .none (.meet [(6, .slice), (7, .slice)] (.seq .none (.one (.loop [(6, .slice), (7, .slice), (8, .int .i64)] (.seq .none (.seq (.one (.seq (.draw [[], [], [], [1, 2], [1, 2, 3], [1, 2, 3, 4], [], [], [6, 7], [6, 7, 8], [6, 7, 8, 9], [0, 1, 2, 3, 4, 5, 6, 7, 8, 9, 10], [0, 1, 2, 3, 4, 5, 6, 7, 8, 9, 10, 11]] [0, 1, 2, 3, 4, 5, 6, 7, 8, 9, 10, 11, 12]) .none)) .none))))) (.seq .none (.seq .none (.seq .none (.seq (.seq .none (.one (.loop [(12, .int .i64)] .none))) .none))))))))
theorem tenonlaw05_WireShort_call {x0 : Option Addr} {y0 z0 : Nat} {x1 : Int} {R : Value → World → Prop} {w : World} (h : tenonlaw05_WireShort x0 y0 z0 x1 R w) : call Try.prog 5 #[.slice x0 y0 z0, .int .i64 x1] w R :=
  call_of_fnW plain mixed Try.func5 tenonlaw05_WireShort_ann (Eq.mp (by kernel_rfl : tenonlaw05_WireShort x0 y0 z0 x1 R w = fnW Try.prog Try.f5 tenonlaw05_WireShort_ann #[.slice x0 y0 z0, .int .i64 x1] R w) h)

def tenonlaw05_WireNil (x0 : Int) (x1 : Int) (x2 : Int) (R : Value → World → Prop) (w : World) : Prop :=
  call Try.prog 16 #[.pointer none, .int .u64 x0, .int .i64 x1] w fun v1 w1 =>
  asI .i64 v1 fun n2 =>
  br ((n2 : Int) != 1) (
  R (.bool false) w1) (
  call Try.prog 13 #[.pointer none, .slice none 0 0] w1 fun v3 w2 =>
  asI .i64 v3 fun n4 =>
  br ((n4 : Int) != 1) (
  R (.bool false) w2) (
  call Try.prog 20 #[.pointer none] w2 fun v5 w3 =>
  asS v5 fun p6 l6 c6 =>
  br ((l6 : Int) != 0) (
  R (.bool false) w3) (
  ∃ J7 : Int → World → Prop, (
  call Try.prog 17 #[.int .i64 x1] w3 fun v8 w4 =>
  asB v8 fun b9 =>
  br b9 (
  J7 6 w4) (
  J7 1 w4)) ∧
  ∀ (u10 : Nat → Value) (n11 : Int) (w5 : World), J7 n11 w5 →
  call Try.prog 24 #[.pointer none, .int .i64 x1] w5 fun v12 w6 =>
  ∃ (n13 : Int) (n14 : Int),
  v12 = .tuple #[.int .u64 n13, .int .i64 n14] ∧
  call Try.prog 25 #[.pointer none, .int .i64 x2] w6 fun v15 w7 =>
  ∃ (p16 : Option Addr) (l16 c16 : Nat) (n17 : Int),
  v15 = .tuple #[.slice p16 l16 c16, .int .i64 n17] ∧
  br ((n13 : Int) == 0) (
  br ((n14 : Int) == n11) (
  br ((l16 : Int) == 0) (
  br ((n17 : Int) == 6) (
  call Try.prog 26 #[.pointer none] w7 fun v18 w8 =>
  asI .i64 v18 fun n19 =>
  br ((n19 : Int) == 0) (
  call Try.prog 27 #[.pointer none] w8 fun v20 w9 =>
  asI .i64 v20 fun n21 =>
  br ((n21 : Int) == 0) (
  call Try.prog 10 #[] w9 fun v22 w10 =>
  asB v22 fun b23 =>
  R (.bool b23) w10) (
  R (.bool false) w9)) (
  R (.bool false) w8)) (
  R (.bool false) w7)) (
  R (.bool false) w7)) (
  R (.bool false) w7)) (
  R (.bool false) w7))))
@[irreducible] def tenonlaw05_WireNil_ann : Ann := .seq .none (.seq .none (.seq .none (.seq .none (.seq .none (.meet [(9, .int .i64)] .none .none)))))
theorem tenonlaw05_WireNil_call {x0 : Int} {x1 : Int} {x2 : Int} {R : Value → World → Prop} {w : World} (h : tenonlaw05_WireNil x0 x1 x2 R w) : call Try.prog 6 #[.int .u64 x0, .int .i64 x1, .int .i64 x2] w R :=
  call_of_fnW plain mixed Try.func6 tenonlaw05_WireNil_ann (Eq.mp (by kernel_rfl : tenonlaw05_WireNil x0 x1 x2 R w = fnW Try.prog Try.f6 tenonlaw05_WireNil_ann #[.int .u64 x0, .int .i64 x1, .int .i64 x2] R w) h)

def tenonlaw05_WireReads (x0 : Option Addr) (y0 z0 : Nat) (x1 : Option Addr) (y1 z1 : Nat) (R : Value → World → Prop) (w : World) : Prop :=
  br (decide ((y0 : Int) > 70000)) (
  call Try.prog 10 #[] w fun v1 w1 =>
  asB v1 fun b2 =>
  R (.bool b2) w1) (
  call Try.prog 12 #[.slice x0 y0 z0] w fun v3 w2 =>
  asS v3 fun p4 l4 c4 =>
  call Try.prog 23 #[.slice p4 l4 c4] w2 fun v5 w3 =>
  asP v5 fun p6 =>
  ∃ I7 : Int → Int → World → Nat → Prop, (∃ m8, I7 0 0 w3 m8) ∧
  ∀ (u9 : Nat → Value) (n10 : Int) (n11 : Int) (w4 : World) (m12 : Nat), I7 n10 n11 w4 m12 →
  br (decide ((n11 : Int) < (y1 : Int))) (
  br (decide ((n11 : Int) < 100)) (
  ∃ J13 : Int → World → Prop, (
  idx x1 y1 n11 4 fun a14 =>
  ldB (a14.add 0) w4 fun b15 =>
  br b15 (
  idx x1 y1 n11 4 fun a16 =>
  ldI .i64 (a16.add 2) w4 fun n17 =>
  call Try.prog 25 #[.pointer p6, .int .i64 n17] w4 fun v18 w5 =>
  ∃ (p19 : Option Addr) (l19 c19 : Nat) (n20 : Int),
  v18 = .tuple #[.slice p19 l19 c19, .int .i64 n20] ∧
  idx x1 y1 n11 4 fun a21 =>
  ldI .i64 (a21.add 2) w5 fun n22 =>
  call Try.prog 28 #[.slice x0 y0 z0, .int .i64 n10, .int .i64 n22] w5 fun v23 w6 =>
  ∃ (p24 : Option Addr) (l24 c24 : Nat) (n25 : Int) (n26 : Int),
  v23 = .tuple #[.slice p24 l24 c24, .int .i64 n25, .int .i64 n26] ∧
  call Try.prog 21 #[.slice p19 l19 c19, .slice p24 l24 c24] w6 fun v27 w7 =>
  asB v27 fun b28 =>
  br (!b28) (
  R (.bool false) w7) (
  br ((n20 : Int) != n26) (
  R (.bool false) w7) (
  J13 n25 w7))) (
  idx x1 y1 n11 4 fun a29 =>
  ldI .i64 (a29.add 2) w4 fun n30 =>
  call Try.prog 24 #[.pointer p6, .int .i64 n30] w4 fun v31 w8 =>
  ∃ (n32 : Int) (n33 : Int),
  v31 = .tuple #[.int .u64 n32, .int .i64 n33] ∧
  idx x1 y1 n11 4 fun a34 =>
  ldI .i64 (a34.add 2) w8 fun n35 =>
  call Try.prog 29 #[.slice x0 y0 z0, .int .i64 n10, .int .i64 n35] w8 fun v36 w9 =>
  ∃ (n37 : Int) (n38 : Int) (n39 : Int),
  v36 = .tuple #[.int .u64 n37, .int .i64 n38, .int .i64 n39] ∧
  br ((n32 : Int) != n37) (
  R (.bool false) w9) (
  br ((n33 : Int) != n39) (
  R (.bool false) w9) (
  J13 n38 w9)))) ∧
  ∀ (u40 : Nat → Value) (n41 : Int) (w10 : World), J13 n41 w10 →
  call Try.prog 26 #[.pointer p6] w10 fun v42 w11 =>
  asI .i64 v42 fun n43 =>
  arith .i64 ((y0 : Int) - n41) fun n44 =>
  br ((n43 : Int) != n44) (
  R (.bool false) w11) (
  call Try.prog 27 #[.pointer p6] w11 fun v45 w12 =>
  asI .i64 v45 fun n46 =>
  br (!(((n46 : Int) == 0) == ((n41 : Int) == (y0 : Int)))) (
  R (.bool false) w12) (
  call Try.prog 27 #[.pointer p6] w12 fun v47 w13 =>
  asI .i64 v47 fun n48 =>
  br ((n48 : Int) != 0) (
  call Try.prog 27 #[.pointer p6] w13 fun v49 w14 =>
  asI .i64 v49 fun n50 =>
  br ((n50 : Int) != 5) (
  R (.bool false) w14) (
  arith .i64 (n11 + 1) fun n51 =>
  ∃ m52, m52 < m12 ∧ I7 n41 n51 w14 m52)) (
  arith .i64 (n11 + 1) fun n53 =>
  ∃ m54, m54 < m12 ∧ I7 n41 n53 w13 m54)))) (
  call Try.prog 14 #[.slice p4 l4 c4, .slice x0 y0 z0] w4 fun v55 w15 =>
  asB v55 fun b56 =>
  br b56 (
  call Try.prog 10 #[] w15 fun v57 w16 =>
  asB v57 fun b58 =>
  R (.bool b58) w16) (
  R (.bool false) w15))) (
  call Try.prog 14 #[.slice p4 l4 c4, .slice x0 y0 z0] w4 fun v59 w17 =>
  asB v59 fun b60 =>
  br b60 (
  call Try.prog 10 #[] w17 fun v61 w18 =>
  asB v61 fun b62 =>
  R (.bool b62) w18) (
  R (.bool false) w17)))
@[irreducible] def tenonlaw05_WireReads_ann : Ann := .seq .none (.seq .none (.seq .none (.seq .none (.seq .none (.seq (.seq .none (.one (.loop [(7, .int .i64), (8, .int .i64)] (.seq .none (.seq (.one (.meet [(7, .int .i64)] .none .none)) .none))))) .none)))))
theorem tenonlaw05_WireReads_call {x0 : Option Addr} {y0 z0 : Nat} {x1 : Option Addr} {y1 z1 : Nat} {R : Value → World → Prop} {w : World} (h : tenonlaw05_WireReads x0 y0 z0 x1 y1 z1 R w) : call Try.prog 7 #[.slice x0 y0 z0, .slice x1 y1 z1] w R :=
  call_of_fnW plain mixed Try.func7 tenonlaw05_WireReads_ann (Eq.mp (by kernel_rfl : tenonlaw05_WireReads x0 y0 z0 x1 y1 z1 R w = fnW Try.prog Try.f7 tenonlaw05_WireReads_ann #[.slice x0 y0 z0, .slice x1 y1 z1] R w) h)

def tenonlaw05_WireBack (x0 : Option Addr) (y0 z0 : Nat) (R : Value → World → Prop) (w : World) : Prop :=
  call Try.prog 9 #[.slice x0 y0 z0] w fun v1 w1 =>
  asB v1 fun b2 =>
  br b2 (
  call Try.prog 10 #[] w1 fun v3 w2 =>
  asB v3 fun b4 =>
  R (.bool b4) w2) (
  call Try.prog 11 #[] w1 fun v5 w3 =>
  asP v5 fun p6 =>
  ∃ J7 : Option Addr → Nat → Nat → World → Prop, (
  ∃ I8 : Option Addr → Nat → Nat → Int → World → Nat → Prop, (∃ m9, I8 none 0 0 0 w3 m9) ∧
  ∀ (u10 : Nat → Value) (p11 : Option Addr) (l11 c11 : Nat) (n12 : Int) (w4 : World) (m13 : Nat), I8 p11 l11 c11 n12 w4 m13 →
  br (decide ((n12 : Int) < (y0 : Int))) (
  br (decide ((n12 : Int) < 100)) (
  idx x0 y0 n12 4 fun a14 =>
  ldB (a14.add 0) w4 fun b15 =>
  br b15 (
  idx x0 y0 n12 4 fun a16 =>
  ldS (a16.add 3) w4 fun p17 l17 c17 =>
  call Try.prog 13 #[.pointer p6, .slice p17 l17 c17] w4 fun v18 w5 =>
  asI .i64 v18 fun n19 =>
  br ((n19 : Int) == 0) (
  idx x0 y0 n12 4 fun a20 =>
  ldA a20 4 w5 fun g21 =>
  g21.size = 4 ∧
  new g21 30 w5 fun k22 w6 =>
  runsS Try.prog (Builtin.append_ #[22, 22] 22 #[.slice p11 l11 c11, .slice (some (⟨k22, 0, none⟩ : Addr)) 1 1]) w6 fun p23 l23 c23 w7 =>
  arith .i64 (n12 + 1) fun n24 =>
  ∃ m25, m25 < m13 ∧ I8 p23 l23 c23 n24 w7 m25) (
  arith .i64 (n12 + 1) fun n26 =>
  ∃ m27, m27 < m13 ∧ I8 p11 l11 c11 n26 w5 m27)) (
  idx x0 y0 n12 4 fun a28 =>
  ldI .u64 (a28.add 1) w4.drew fun n29 =>
  idx x0 y0 n12 4 fun a30 =>
  ldI .i64 (a30.add 2) w4.drew fun n31 =>
  call Try.prog 16 #[.pointer p6, .int .u64 n29, .int .i64 n31] w4.drew fun v32 w8 =>
  asI .i64 v32 fun n33 =>
  br ((n33 : Int) == 0) (
  idx x0 y0 n12 4 fun a34 =>
  ldA a34 4 w8 fun g35 =>
  g35.size = 4 ∧
  new g35 30 w8 fun k36 w9 =>
  runsS Try.prog (Builtin.append_ #[22, 22] 22 #[.slice p11 l11 c11, .slice (some (⟨k36, 0, none⟩ : Addr)) 1 1]) w9 fun p37 l37 c37 w10 =>
  arith .i64 (n12 + 1) fun n38 =>
  ∃ m39, m39 < m13 ∧ I8 p37 l37 c37 n38 w10 m39) (
  arith .i64 (n12 + 1) fun n40 =>
  ∃ m41, m41 < m13 ∧ I8 p11 l11 c11 n40 w8 m41))) (
  J7 p11 l11 c11 w4)) (
  J7 p11 l11 c11 w4)) ∧
  ∀ (u42 : Nat → Value) (p43 : Option Addr) (l43 c43 : Nat) (w11 : World), J7 p43 l43 c43 w11 →
  call Try.prog 20 #[.pointer p6] w11 fun v44 w12 =>
  asS v44 fun p45 l45 c45 =>
  call Try.prog 23 #[.slice p45 l45 c45] w12 fun v46 w13 =>
  asP v46 fun p47 =>
  ∃ I48 : Int → World → Nat → Prop, (∃ m49, I48 0 w13 m49) ∧
  ∀ (u50 : Nat → Value) (n51 : Int) (w14 : World) (m52 : Nat), I48 n51 w14 m52 →
  br (decide ((n51 : Int) < (l43 : Int))) (
  idx p43 l43 n51 4 fun a53 =>
  ldB (a53.add 0) w14 fun b54 =>
  br b54 (
  call Try.prog 25 #[.pointer p47, .int .i64 65535] w14 fun v55 w15 =>
  ∃ (p56 : Option Addr) (l56 c56 : Nat) (n57 : Int),
  v55 = .tuple #[.slice p56 l56 c56, .int .i64 n57] ∧
  br ((n57 : Int) != 0) (
  R (.bool false) w15) (
  idx p43 l43 n51 4 fun a58 =>
  ldS (a58.add 3) w15 fun p59 l59 c59 =>
  call Try.prog 21 #[.slice p56 l56 c56, .slice p59 l59 c59] w15 fun v60 w16 =>
  asB v60 fun b61 =>
  br (!b61) (
  R (.bool false) w16) (
  arith .i64 (n51 + 1) fun n62 =>
  ∃ m63, m63 < m52 ∧ I48 n62 w16 m63))) (
  idx p43 l43 n51 4 fun a64 =>
  ldI .i64 (a64.add 2) w14 fun n65 =>
  call Try.prog 24 #[.pointer p47, .int .i64 n65] w14 fun v66 w17 =>
  ∃ (n67 : Int) (n68 : Int),
  v66 = .tuple #[.int .u64 n67, .int .i64 n68] ∧
  br ((n68 : Int) != 0) (
  R (.bool false) w17) (
  idx p43 l43 n51 4 fun a69 =>
  ldI .u64 (a69.add 1) w17 fun n70 =>
  br ((n67 : Int) != n70) (
  R (.bool false) w17) (
  arith .i64 (n51 + 1) fun n71 =>
  ∃ m72, m72 < m52 ∧ I48 n71 w17 m72)))) (
  call Try.prog 27 #[.pointer p47] w14 fun v73 w18 =>
  asI .i64 v73 fun n74 =>
  br ((n74 : Int) == 0) (
  call Try.prog 26 #[.pointer p47] w18 fun v75 w19 =>
  asI .i64 v75 fun n76 =>
  br ((n76 : Int) == 0) (
  call Try.prog 10 #[] w19 fun v77 w20 =>
  asB v77 fun b78 =>
  R (.bool b78) w20) (
  R (.bool false) w19)) (
  R (.bool false) w18)))
@[irreducible] def tenonlaw05_WireBack_ann : Ann := .seq .none (.seq .none (.seq .none (.seq .none (.meet [(4, .slice)] (.seq .none (.one (.loop [(4, .slice), (5, .int .i64)] (.seq .none (.seq (.one (.seq .none (.seq (.seq .none (.seq .none (.draw [[], [], [], [1, 2], [1, 2, 3], [1, 2, 3, 4], [], [], [6, 7], [6, 7, 8], [6, 7, 8, 9], [0, 1, 2, 3, 4, 5, 6, 7, 8, 9, 10], [0, 1, 2, 3, 4, 5, 6, 7, 8, 9, 10, 11]] [0, 1, 2, 3, 4, 5, 6, 7, 8, 9, 10, 11, 12]))) .none))) .none))))) (.seq .none (.seq (.seq .none (.one (.loop [(8, .int .i64)] .none))) .none))))))
theorem tenonlaw05_WireBack_call {x0 : Option Addr} {y0 z0 : Nat} {R : Value → World → Prop} {w : World} (h : tenonlaw05_WireBack x0 y0 z0 R w) : call Try.prog 8 #[.slice x0 y0 z0] w R :=
  call_of_fnW plain mixed Try.func8 tenonlaw05_WireBack_ann (Eq.mp (by kernel_rfl : tenonlaw05_WireBack x0 y0 z0 R w = fnW Try.prog Try.f8 tenonlaw05_WireBack_ann #[.slice x0 y0 z0] R w) h)

def tenonlaw05_great (x0 : Option Addr) (y0 z0 : Nat) (R : Value → World → Prop) (w : World) : Prop :=
  ∃ I1 : Int → Int → World → Nat → Prop, (∃ m2, I1 0 0 w m2) ∧
  ∀ (u3 : Nat → Value) (n4 : Int) (n5 : Int) (w1 : World) (m6 : Nat), I1 n4 n5 w1 m6 →
  br (decide ((n5 : Int) < (y0 : Int))) (
  br (decide ((n5 : Int) < 100)) (
  idx x0 y0 n5 4 fun a7 =>
  ldS (a7.add 3) w1 fun p8 l8 c8 =>
  br (decide ((l8 : Int) > 70000)) (
  R (.bool true) w1) (
  idx x0 y0 n5 4 fun a9 =>
  ldS (a9.add 3) w1 fun p10 l10 c10 =>
  arith .i64 (n4 + (l10 : Int)) fun n11 =>
  arith .i64 (n5 + 1) fun n12 =>
  ∃ m13, m13 < m6 ∧ I1 n11 n12 w1 m13)) (
  R (.bool (decide ((n4 : Int) > 150000))) w1)) (
  R (.bool (decide ((n4 : Int) > 150000))) w1)
@[irreducible] def tenonlaw05_great_ann : Ann := .seq .none (.seq .none (.seq (.seq .none (.one (.loop [(3, .int .i64), (4, .int .i64)] .none))) .none))
theorem tenonlaw05_great_call {x0 : Option Addr} {y0 z0 : Nat} {R : Value → World → Prop} {w : World} (h : tenonlaw05_great x0 y0 z0 R w) : call Try.prog 9 #[.slice x0 y0 z0] w R :=
  call_of_fnW plain mixed Try.func9 tenonlaw05_great_ann (Eq.mp (by kernel_rfl : tenonlaw05_great x0 y0 z0 R w = fnW Try.prog Try.f9 tenonlaw05_great_ann #[.slice x0 y0 z0] R w) h)

def tenonlaw05_awake  (R : Value → World → Prop) (w : World) : Prop :=
  call Try.prog 11 #[] w fun v1 w1 =>
  asP v1 fun p2 =>
  call Try.prog 16 #[.pointer p2, .int .u64 1, .int .i64 1] w1 fun v3 w2 =>
  asI .i64 v3 fun n4 =>
  call Try.prog 16 #[.pointer p2, .int .u64 2, .int .i64 4] w2 fun v5 w3 =>
  asI .i64 v5 fun n6 =>
  new #[.int .u8 97, .int .u8 98] 5 w3 fun k7 w4 =>
  runsS Try.prog (convert 27 27 (.slice (some (⟨k7, 0, none⟩ : Addr)) 2 2)) w4 fun p8 l8 c8 w5 =>
  call Try.prog 13 #[.pointer p2, .slice p8 l8 c8] w5 fun v9 w6 =>
  asI .i64 v9 fun n10 =>
  br ((n4 : Int) == 0) (
  br ((n6 : Int) == 0) (
  br ((n10 : Int) == 0) (
  call Try.prog 20 #[.pointer p2] w6 fun v11 w7 =>
  asS v11 fun p12 l12 c12 =>
  new #[.int .u8 1, .int .u8 0, .int .u8 0, .int .u8 0, .int .u8 2, .int .u8 0, .int .u8 0, .int .u8 0, .int .u8 2, .int .u8 0, .int .u8 0, .int .u8 0, .int .u8 97, .int .u8 98] 5 w7 fun k13 w8 =>
  call Try.prog 21 #[.slice p12 l12 c12, .slice (some (⟨k13, 0, none⟩ : Addr)) 14 14] w8 fun v14 w9 =>
  asB v14 fun b15 =>
  R (.bool b15) w9) (
  R (.bool false) w6)) (
  R (.bool false) w6)) (
  R (.bool false) w6)
@[irreducible] def tenonlaw05_awake_ann : Ann := .none
theorem tenonlaw05_awake_call  {R : Value → World → Prop} {w : World} (h : tenonlaw05_awake  R w) : call Try.prog 10 #[] w R :=
  call_of_fnW plain mixed Try.func10 tenonlaw05_awake_ann (Eq.mp (by kernel_rfl : tenonlaw05_awake  R w = fnW Try.prog Try.f10 tenonlaw05_awake_ann #[] R w) h)

def wire_NewWriter  (R : Value → World → Prop) (w : World) : Prop :=
  new #[.slice none 0 0] 59 w fun k1 w1 =>
  R (.pointer (some (⟨k1, 0, none⟩ : Addr))) w1
@[irreducible] def wire_NewWriter_ann : Ann := .none
theorem wire_NewWriter_call  {R : Value → World → Prop} {w : World} (h : wire_NewWriter  R w) : call Try.prog 11 #[] w R :=
  call_of_fnW plain mixed Try.func11 wire_NewWriter_ann (Eq.mp (by kernel_rfl : wire_NewWriter  R w = fnW Try.prog Try.f11 wire_NewWriter_ann #[] R w) h)

def tenonref01_Lent (x0 : Option Addr) (y0 z0 : Nat) (R : Value → World → Prop) (w : World) : Prop :=
  arith .i64 ((y0 : Int) + 4) fun n1 =>
  runsS Try.prog (Instr.makeSlice 27 (.int .i64 0) (.int .i64 n1)) w fun p2 l2 c2 w1 =>
  ∃ I3 : Option Addr → Nat → Nat → Int → World → Nat → Prop, (∃ m4, I3 p2 l2 c2 0 w1 m4) ∧
  ∀ (u5 : Nat → Value) (p6 : Option Addr) (l6 c6 : Nat) (n7 : Int) (w2 : World) (m8 : Nat), I3 p6 l6 c6 n7 w2 m8 →
  br (decide ((n7 : Int) < (y0 : Int))) (
  idx x0 y0 n7 1 fun a9 =>
  ldI .u8 a9 w2 fun n10 =>
  new #[.int .u8 n10] 5 w2 fun k11 w3 =>
  runsS Try.prog (Builtin.append_ #[27, 27] 27 #[.slice p6 l6 c6, .slice (some (⟨k11, 0, none⟩ : Addr)) 1 1]) w3 fun p12 l12 c12 w4 =>
  arith .i64 (n7 + 1) fun n13 =>
  ∃ m14, m14 < m8 ∧ I3 p12 l12 c12 n13 w4 m14) (
  new #[.int .u8 90, .int .u8 91, .int .u8 92, .int .u8 93] 5 w2 fun k15 w5 =>
  runsS Try.prog (Builtin.append_ #[27, 27] 27 #[.slice p6 l6 c6, .slice (some (⟨k15, 0, none⟩ : Addr)) 4 4]) w5 fun p16 l16 c16 w6 =>
  slc p16 c16 1 0 ((y0 : Int)) fun p17 l17 c17 =>
  R (.slice p17 l17 c17) w6)
@[irreducible] def tenonref01_Lent_ann : Ann := .seq .none (.seq .none (.seq (.seq .none (.one (.loop [(3, .slice), (4, .int .i64)] .none))) .none))
theorem tenonref01_Lent_call {x0 : Option Addr} {y0 z0 : Nat} {R : Value → World → Prop} {w : World} (h : tenonref01_Lent x0 y0 z0 R w) : call Try.prog 12 #[.slice x0 y0 z0] w R :=
  call_of_fnW plain mixed Try.func12 tenonref01_Lent_ann (Eq.mp (by kernel_rfl : tenonref01_Lent x0 y0 z0 R w = fnW Try.prog Try.f12 tenonref01_Lent_ann #[.slice x0 y0 z0] R w) h)

def wire_Writer_Text (x0 : Option Addr) (x1 : Option Addr) (y1 z1 : Nat) (R : Value → World → Prop) (w : World) : Prop :=
  br x0.isNone (
  R (.int .i64 1) w) (
  br (decide ((y1 : Int) > 65535)) (
  R (.int .i64 1) w) (
  arith .u64 ((y1 : Int)) fun n1 =>
  call Try.prog 16 #[.pointer x0, .int .u64 n1, .int .i64 4] w fun v2 w1 =>
  asI .i64 v2 fun n3 =>
  nn x0 fun a4 =>
  ldS (a4.add 0) w1 fun p5 l5 c5 =>
  runsS Try.prog (Builtin.append_ #[27, 27] 27 #[.slice p5 l5 c5, .slice x1 y1 z1]) w1 fun p6 l6 c6 w2 =>
  nn x0 fun a7 =>
  st (a7.add 0) (.slice p6 l6 c6) w2 fun w3 =>
  R (.int .i64 0) w3))
@[irreducible] def wire_Writer_Text_ann : Ann := .none
theorem wire_Writer_Text_call {x0 : Option Addr} {x1 : Option Addr} {y1 z1 : Nat} {R : Value → World → Prop} {w : World} (h : wire_Writer_Text x0 x1 y1 z1 R w) : call Try.prog 13 #[.pointer x0, .slice x1 y1 z1] w R :=
  call_of_fnW plain mixed Try.func13 wire_Writer_Text_ann (Eq.mp (by kernel_rfl : wire_Writer_Text x0 x1 y1 z1 R w = fnW Try.prog Try.f13 wire_Writer_Text_ann #[.pointer x0, .slice x1 y1 z1] R w) h)

def tenonref01_Kept (x0 : Option Addr) (y0 z0 : Nat) (x1 : Option Addr) (y1 z1 : Nat) (R : Value → World → Prop) (w : World) : Prop :=
  arith .i64 ((y1 : Int) + 4) fun n1 =>
  slc x0 z0 1 0 n1 fun p2 l2 c2 =>
  ∃ I3 : Int → World → Nat → Prop, (∃ m4, I3 0 w m4) ∧
  ∀ (u5 : Nat → Value) (n6 : Int) (w1 : World) (m7 : Nat), I3 n6 w1 m7 →
  br (decide ((n6 : Int) < 4)) (
  arith .i64 ((y1 : Int) + n6) fun n8 =>
  idx p2 l2 n8 1 fun a9 =>
  ldI .u8 a9 w1 fun n10 =>
  arith .i64 (90 + n6) fun n11 =>
  arith .u8 n11 fun n12 =>
  br ((n10 : Int) != n12) (
  R (.bool false) w1) (
  arith .i64 (n6 + 1) fun n13 =>
  ∃ m14, m14 < m7 ∧ I3 n13 w1 m14)) (
  call Try.prog 21 #[.slice x0 y0 z0, .slice x1 y1 z1] w1 fun v15 w2 =>
  asB v15 fun b16 =>
  R (.bool b16) w2)
@[irreducible] def tenonref01_Kept_ann : Ann := .seq .none (.seq .none (.seq (.seq .none (.one (.loop [(6, .int .i64)] .none))) .none))
theorem tenonref01_Kept_call {x0 : Option Addr} {y0 z0 : Nat} {x1 : Option Addr} {y1 z1 : Nat} {R : Value → World → Prop} {w : World} (h : tenonref01_Kept x0 y0 z0 x1 y1 z1 R w) : call Try.prog 14 #[.slice x0 y0 z0, .slice x1 y1 z1] w R :=
  call_of_fnW plain mixed Try.func14 tenonref01_Kept_ann (Eq.mp (by kernel_rfl : tenonref01_Kept x0 y0 z0 x1 y1 z1 R w = fnW Try.prog Try.f14 tenonref01_Kept_ann #[.slice x0 y0 z0, .slice x1 y1 z1] R w) h)

def tenonref05_Text (x0 : Option Addr) (y0 z0 : Nat) (x1 : Option Addr) (y1 z1 : Nat) (R : Value → World → Prop) (w : World) : Prop :=
  arith .u64 ((y1 : Int)) fun n1 =>
  call Try.prog 19 #[.slice x0 y0 z0, .int .u64 n1, .int .i64 4] w fun v2 w1 =>
  asS v2 fun p3 l3 c3 =>
  runsS Try.prog (Builtin.append_ #[27, 27] 27 #[.slice p3 l3 c3, .slice x1 y1 z1]) w1 fun p4 l4 c4 w2 =>
  R (.slice p4 l4 c4) w2
@[irreducible] def tenonref05_Text_ann : Ann := .none
theorem tenonref05_Text_call {x0 : Option Addr} {y0 z0 : Nat} {x1 : Option Addr} {y1 z1 : Nat} {R : Value → World → Prop} {w : World} (h : tenonref05_Text x0 y0 z0 x1 y1 z1 R w) : call Try.prog 15 #[.slice x0 y0 z0, .slice x1 y1 z1] w R :=
  call_of_fnW plain mixed Try.func15 tenonref05_Text_ann (Eq.mp (by kernel_rfl : tenonref05_Text x0 y0 z0 x1 y1 z1 R w = fnW Try.prog Try.f15 tenonref05_Text_ann #[.slice x0 y0 z0, .slice x1 y1 z1] R w) h)

def wire_Writer_Num (x0 : Option Addr) (x1 : Int) (x2 : Int) (R : Value → World → Prop) (w : World) : Prop :=
  ∃ J1 : World → Prop, (
  br x0.isNone (
  R (.int .i64 1) w) (
  call Try.prog 30 #[.int .i64 x2] w fun v2 w1 =>
  asB v2 fun b3 =>
  br (!b3) (
  R (.int .i64 1) w1) (
  br (decide ((x2 : Int) < 8)) (
  arith .i64 (8 * x2) fun n4 =>
  shr .u64 x1 n4 fun n5 =>
  br ((n5 : Int) != 0) (
  R (.int .i64 1) w1) (
  J1  w1)) (
  J1  w1)))) ∧
  ∀ (u6 : Nat → Value)  (w2 : World), J1  w2 →
  nn x0 fun a7 =>
  ldS (a7.add 0) w2.drew fun p8 l8 c8 =>
  nn x0 fun a9 =>
  ldS (a9.add 0) w2.drew fun p10 l10 c10 =>
  call Try.prog 31 #[.int .i64 ((l10 : Int)), .int .i64 x2] w2.drew fun v11 w3 =>
  asI .i64 v11 fun n12 =>
  w3.cell? (a7.add 0) = some (.slice p8 l8 c8) ∧
  runsS Try.prog (Builtin.append_ #[27, 3] 27 #[.slice p8 l8 c8, .int .i64 n12]) w3 fun p13 l13 c13 w4 =>
  nn x0 fun a14 =>
  st (a14.add 0) (.slice p13 l13 c13) w4 fun w5 =>
  ∃ I15 : Int → World → Nat → Prop, (∃ m16, I15 0 w5 m16) ∧
  ∀ (u17 : Nat → Value) (n18 : Int) (w6 : World) (m19 : Nat), I15 n18 w6 m19 →
  br (decide ((n18 : Int) < x2)) (
  nn x0 fun a20 =>
  ldS (a20.add 0) w6.drew fun p21 l21 c21 =>
  arith .i64 (8 * n18) fun n22 =>
  shr .u64 x1 n22 fun n23 =>
  arith .u8 n23 fun n24 =>
  new #[.int .u8 n24] 5 w6.drew fun k25 w7 =>
  runsS Try.prog (Builtin.append_ #[27, 27] 27 #[.slice p21 l21 c21, .slice (some (⟨k25, 0, none⟩ : Addr)) 1 1]) w7 fun p26 l26 c26 w8 =>
  nn x0 fun a27 =>
  st (a27.add 0) (.slice p26 l26 c26) w8 fun w9 =>
  arith .i64 (n18 + 1) fun n28 =>
  ∃ m29, m29 < m19 ∧ I15 n28 w9 m29) (
  R (.int .i64 0) w6)
@[irreducible] def wire_Writer_Num_ann : Ann := .seq .none (.meet [] .none (.seq (.draw [[], [], [1], [1, 2], [1, 2, 3], [], [5], [5, 6], [5, 6, 7], [5, 6, 7, 8], [], [5, 6, 7, 8, 9, 10], [1, 2, 3, 4, 5, 6, 7, 8, 9, 10, 11], [0, 1, 2, 3, 4, 5, 6, 7, 8, 9, 10, 11, 12], [0, 1, 2, 3, 4, 5, 6, 7, 8, 9, 10, 11, 12, 13], [0, 1, 2, 3, 4, 5, 6, 7, 8, 9, 10, 11, 12, 13, 14]] [0, 1, 2, 3, 4, 5, 6, 7, 8, 9, 10, 11, 12, 13, 14, 15]) (.seq (.seq .none (.one (.loop [(42, .int .i64)] (.seq .none (.seq .none (.seq (.one (.seq .none (.draw [[], [], [1], [1, 2], [1, 2, 3], [], [], [6], [5, 6, 7], [5, 6, 7, 8], [5, 6, 7, 8, 9], [1, 2, 3, 4, 5, 6, 7, 8, 9, 10], [0, 1, 2, 3, 4, 5, 6, 7, 8, 9, 10, 11], [0, 1, 2, 3, 4, 5, 6, 7, 8, 9, 10, 11, 12], [0, 1, 2, 3, 4, 5, 6, 7, 8, 9, 10, 11, 12, 13]] [0, 1, 2, 3, 4, 5, 6, 7, 8, 9, 10, 11, 12, 13, 14]))) .none)))))) .none)))
theorem wire_Writer_Num_call {x0 : Option Addr} {x1 : Int} {x2 : Int} {R : Value → World → Prop} {w : World} (h : wire_Writer_Num x0 x1 x2 R w) : call Try.prog 16 #[.pointer x0, .int .u64 x1, .int .i64 x2] w R :=
  call_of_fnW plain mixed Try.func16 wire_Writer_Num_ann (Eq.mp (by kernel_rfl : wire_Writer_Num x0 x1 x2 R w = fnW Try.prog Try.f16 wire_Writer_Num_ann #[.pointer x0, .int .u64 x1, .int .i64 x2] R w) h)

def tenonref05_Fits (x0 : Int) (R : Value → World → Prop) (w : World) : Prop :=
  br ((x0 : Int) == 1) (
  R (.bool true) w) (
  br ((x0 : Int) == 2) (
  R (.bool true) w) (
  br ((x0 : Int) == 4) (
  R (.bool true) w) (
  R (.bool ((x0 : Int) == 8)) w)))
@[irreducible] def tenonref05_Fits_ann : Ann := .none
theorem tenonref05_Fits_call {x0 : Int} {R : Value → World → Prop} {w : World} (h : tenonref05_Fits x0 R w) : call Try.prog 17 #[.int .i64 x0] w R :=
  call_of_fnW plain mixed Try.func17 tenonref05_Fits_ann (Eq.mp (by kernel_rfl : tenonref05_Fits x0 R w = fnW Try.prog Try.f17 tenonref05_Fits_ann #[.int .i64 x0] R w) h)

def tenonref05_Room (x0 : Int) (x1 : Int) (R : Value → World → Prop) (w : World) : Prop :=
  ∃ I1 : Int → Int → World → Nat → Prop, (∃ m2, I1 x0 0 w m2) ∧
  ∀ (u3 : Nat → Value) (n4 : Int) (n5 : Int) (w1 : World) (m6 : Nat), I1 n4 n5 w1 m6 →
  br (decide ((n5 : Int) < x1)) (
  quo .u64 n4 256 fun n7 =>
  arith .i64 (n5 + 1) fun n8 =>
  ∃ m9, m9 < m6 ∧ I1 n7 n8 w1 m9) (
  R (.bool ((n4 : Int) == 0)) w1)
@[irreducible] def tenonref05_Room_ann : Ann := .seq .none (.seq (.seq .none (.one (.loop [(0, .int .u64), (5, .int .i64)] .none))) .none)
theorem tenonref05_Room_call {x0 : Int} {x1 : Int} {R : Value → World → Prop} {w : World} (h : tenonref05_Room x0 x1 R w) : call Try.prog 18 #[.int .u64 x0, .int .i64 x1] w R :=
  call_of_fnW plain mixed Try.func18 tenonref05_Room_ann (Eq.mp (by kernel_rfl : tenonref05_Room x0 x1 R w = fnW Try.prog Try.f18 tenonref05_Room_ann #[.int .u64 x0, .int .i64 x1] R w) h)

def tenonref05_Num (x0 : Option Addr) (y0 z0 : Nat) (x1 : Int) (x2 : Int) (R : Value → World → Prop) (w : World) : Prop :=
  runsS Try.prog (Builtin.append_ #[27, 27] 27 #[.slice none 0 0, .slice x0 y0 z0]) w fun p1 l1 c1 w1 =>
  ∃ I2 : Option Addr → Nat → Nat → World → Nat → Prop, (∃ m3, I2 p1 l1 c1 w1 m3) ∧
  ∀ (u4 : Nat → Value) (p5 : Option Addr) (l5 c5 : Nat) (w2 : World) (m6 : Nat), I2 p5 l5 c5 w2 m6 →
  rem ((l5 : Int)) x2 fun n7 =>
  br ((n7 : Int) != 0) (
  new #[.int .u8 0] 5 w2 fun k8 w3 =>
  runsS Try.prog (Builtin.append_ #[27, 27] 27 #[.slice p5 l5 c5, .slice (some (⟨k8, 0, none⟩ : Addr)) 1 1]) w3 fun p9 l9 c9 w4 =>
  ∃ m10, m10 < m6 ∧ I2 p9 l9 c9 w4 m10) (
  ∃ I11 : Int → Option Addr → Nat → Nat → Int → World → Nat → Prop, (∃ m12, I11 x1 p5 l5 c5 0 w2 m12) ∧
  ∀ (u13 : Nat → Value) (n14 : Int) (p15 : Option Addr) (l15 c15 : Nat) (n16 : Int) (w5 : World) (m17 : Nat), I11 n14 p15 l15 c15 n16 w5 m17 →
  br (decide ((n16 : Int) < x2)) (
  rem n14 256 fun n18 =>
  arith .u8 n18 fun n19 =>
  new #[.int .u8 n19] 5 w5 fun k20 w6 =>
  runsS Try.prog (Builtin.append_ #[27, 27] 27 #[.slice p15 l15 c15, .slice (some (⟨k20, 0, none⟩ : Addr)) 1 1]) w6 fun p21 l21 c21 w7 =>
  quo .u64 n14 256 fun n22 =>
  arith .i64 (n16 + 1) fun n23 =>
  ∃ m24, m24 < m17 ∧ I11 n22 p21 l21 c21 n23 w7 m24) (
  R (.slice p15 l15 c15) w5))
@[irreducible] def tenonref05_Num_ann : Ann := .seq .none (.seq .none (.seq .none (.seq (.one (.loop [(7, .slice)] .none)) (.seq (.seq .none (.one (.loop [(1, .int .u64), (7, .slice), (8, .int .i64)] .none))) .none))))
theorem tenonref05_Num_call {x0 : Option Addr} {y0 z0 : Nat} {x1 : Int} {x2 : Int} {R : Value → World → Prop} {w : World} (h : tenonref05_Num x0 y0 z0 x1 x2 R w) : call Try.prog 19 #[.slice x0 y0 z0, .int .u64 x1, .int .i64 x2] w R :=
  call_of_fnW plain mixed Try.func19 tenonref05_Num_ann (Eq.mp (by kernel_rfl : tenonref05_Num x0 y0 z0 x1 x2 R w = fnW Try.prog Try.f19 tenonref05_Num_ann #[.slice x0 y0 z0, .int .u64 x1, .int .i64 x2] R w) h)

def wire_Writer_Bytes (x0 : Option Addr) (R : Value → World → Prop) (w : World) : Prop :=
  br x0.isNone (
  R (.slice none 0 0) w) (
  nn x0 fun a1 =>
  ldS (a1.add 0) w fun p2 l2 c2 =>
  call Try.prog 32 #[.slice p2 l2 c2] w fun v3 w1 =>
  asS v3 fun p4 l4 c4 =>
  R (.slice p4 l4 c4) w1)
@[irreducible] def wire_Writer_Bytes_ann : Ann := .none
theorem wire_Writer_Bytes_call {x0 : Option Addr} {R : Value → World → Prop} {w : World} (h : wire_Writer_Bytes x0 R w) : call Try.prog 20 #[.pointer x0] w R :=
  call_of_fnW plain mixed Try.func20 wire_Writer_Bytes_ann (Eq.mp (by kernel_rfl : wire_Writer_Bytes x0 R w = fnW Try.prog Try.f20 wire_Writer_Bytes_ann #[.pointer x0] R w) h)

def tenonref01_SameBytes (x0 : Option Addr) (y0 z0 : Nat) (x1 : Option Addr) (y1 z1 : Nat) (R : Value → World → Prop) (w : World) : Prop :=
  br ((y0 : Int) != (y1 : Int)) (
  R (.bool false) w) (
  ∃ I1 : Int → World → Nat → Prop, (∃ m2, I1 0 w m2) ∧
  ∀ (u3 : Nat → Value) (n4 : Int) (w1 : World) (m5 : Nat), I1 n4 w1 m5 →
  br (decide ((n4 : Int) < (y0 : Int))) (
  idx x0 y0 n4 1 fun a6 =>
  ldI .u8 a6 w1.drew fun n7 =>
  idx x1 y1 n4 1 fun a8 =>
  ldI .u8 a8 w1.drew fun n9 =>
  br ((n7 : Int) != n9) (
  R (.bool false) w1.drew) (
  arith .i64 (n4 + 1) fun n10 =>
  ∃ m11, m11 < m5 ∧ I1 n10 w1.drew m11)) (
  R (.bool true) w1))
@[irreducible] def tenonref01_SameBytes_ann : Ann := .seq .none (.seq .none (.seq (.seq .none (.one (.loop [(5, .int .i64)] (.seq .none (.seq (.one (.seq (.draw [[], [], [0, 1], [0, 1, 2], [], [], [4, 5], [4, 5, 6], [0, 1, 2, 3, 4, 5, 6, 7]] [0, 1, 2, 3, 4, 5, 6, 7, 8]) .none)) .none))))) .none))
theorem tenonref01_SameBytes_call {x0 : Option Addr} {y0 z0 : Nat} {x1 : Option Addr} {y1 z1 : Nat} {R : Value → World → Prop} {w : World} (h : tenonref01_SameBytes x0 y0 z0 x1 y1 z1 R w) : call Try.prog 21 #[.slice x0 y0 z0, .slice x1 y1 z1] w R :=
  call_of_fnW plain mixed Try.func21 tenonref01_SameBytes_ann (Eq.mp (by kernel_rfl : tenonref01_SameBytes x0 y0 z0 x1 y1 z1 R w = fnW Try.prog Try.f21 tenonref01_SameBytes_ann #[.slice x0 y0 z0, .slice x1 y1 z1] R w) h)

def tenonref01_Pick (x0 : Int) (x1 : Int) (R : Value → World → Prop) (w : World) : Prop :=
  br (decide ((x1 : Int) < 1)) (
  R (.int .i64 0) w) (
  rem x0 x1 fun n1 =>
  br (decide ((n1 : Int) < 0)) (
  arith .i64 (n1 + x1) fun n2 =>
  R (.int .i64 n2) w) (
  R (.int .i64 n1) w))
@[irreducible] def tenonref01_Pick_ann : Ann := .none
theorem tenonref01_Pick_call {x0 : Int} {x1 : Int} {R : Value → World → Prop} {w : World} (h : tenonref01_Pick x0 x1 R w) : call Try.prog 22 #[.int .i64 x0, .int .i64 x1] w R :=
  call_of_fnW plain mixed Try.func22 tenonref01_Pick_ann (Eq.mp (by kernel_rfl : tenonref01_Pick x0 x1 R w = fnW Try.prog Try.f22 tenonref01_Pick_ann #[.int .i64 x0, .int .i64 x1] R w) h)

def wire_NewReader (x0 : Option Addr) (y0 z0 : Nat) (R : Value → World → Prop) (w : World) : Prop :=
  call Try.prog 32 #[.slice x0 y0 z0] w fun v1 w1 =>
  asS v1 fun p2 l2 c2 =>
  new #[.slice p2 l2 c2, .int .i64 0] 61 w1 fun k3 w2 =>
  R (.pointer (some (⟨k3, 0, none⟩ : Addr))) w2
@[irreducible] def wire_NewReader_ann : Ann := .none
theorem wire_NewReader_call {x0 : Option Addr} {y0 z0 : Nat} {R : Value → World → Prop} {w : World} (h : wire_NewReader x0 y0 z0 R w) : call Try.prog 23 #[.slice x0 y0 z0] w R :=
  call_of_fnW plain mixed Try.func23 wire_NewReader_ann (Eq.mp (by kernel_rfl : wire_NewReader x0 y0 z0 R w = fnW Try.prog Try.f23 wire_NewReader_ann #[.slice x0 y0 z0] R w) h)

def wire_Reader_Num (x0 : Option Addr) (x1 : Int) (R : Value → World → Prop) (w : World) : Prop :=
  call Try.prog 30 #[.int .i64 x1] w fun v1 w1 =>
  asB v1 fun b2 =>
  br (!b2) (
  R (.tuple #[.int .u64 0, .int .i64 1]) w1) (
  br x0.isNone (
  R (.tuple #[.int .u64 0, .int .i64 6]) w1) (
  nn x0 fun a3 =>
  ldI .i64 (a3.add 1) w1 fun n4 =>
  call Try.prog 31 #[.int .i64 n4, .int .i64 x1] w1 fun v5 w2 =>
  asI .i64 v5 fun n6 =>
  nn x0 fun a7 =>
  ldS (a7.add 0) w2.drew fun p8 l8 c8 =>
  nn x0 fun a9 =>
  ldI .i64 (a9.add 1) w2.drew fun n10 =>
  arith .i64 ((l8 : Int) - n10) fun n11 =>
  arith .i64 (n6 + x1) fun n12 =>
  br (decide ((n11 : Int) < n12)) (
  R (.tuple #[.int .u64 0, .int .i64 6]) w2.drew) (
  nn x0 fun a13 =>
  ldS (a13.add 0) w2.drew.drew fun p14 l14 c14 =>
  nn x0 fun a15 =>
  ldI .i64 (a15.add 1) w2.drew.drew fun n16 =>
  nn x0 fun a17 =>
  ldI .i64 (a17.add 1) w2.drew.drew fun n18 =>
  arith .i64 (n18 + n6) fun n19 =>
  slc p14 c14 1 n16 n19 fun p20 l20 c20 =>
  ∃ I21 : Int → World → Nat → Prop, (∃ m22, I21 0 w2.drew.drew m22) ∧
  ∀ (u23 : Nat → Value) (n24 : Int) (w3 : World) (m25 : Nat), I21 n24 w3 m25 →
  br (decide ((n24 : Int) < (l20 : Int))) (
  idx p20 l20 n24 1 fun a26 =>
  ldI .u8 a26 w3 fun n27 =>
  br ((n27 : Int) != 0) (
  R (.tuple #[.int .u64 0, .int .i64 5]) w3) (
  arith .i64 (n24 + 1) fun n28 =>
  ∃ m29, m29 < m25 ∧ I21 n28 w3 m29)) (
  ∃ I30 : Int → Int → World → Nat → Prop, (∃ m31, I30 0 0 w3 m31) ∧
  ∀ (u32 : Nat → Value) (n33 : Int) (n34 : Int) (w4 : World) (m35 : Nat), I30 n33 n34 w4 m35 →
  br (decide ((n34 : Int) < x1)) (
  nn x0 fun a36 =>
  ldS (a36.add 0) w4.drew fun p37 l37 c37 =>
  nn x0 fun a38 =>
  ldI .i64 (a38.add 1) w4.drew fun n39 =>
  arith .i64 (n39 + n6) fun n40 =>
  arith .i64 (n40 + n34) fun n41 =>
  idx p37 l37 n41 1 fun a42 =>
  ldI .u8 a42 w4.drew fun n43 =>
  arith .u64 n43 fun n44 =>
  arith .i64 (8 * n34) fun n45 =>
  shl .u64 n44 n45 fun n46 =>
  arith .i64 (n34 + 1) fun n47 =>
  ∃ m48, m48 < m35 ∧ I30 (bitw .or .u64 n33 n46) n47 w4.drew m48) (
  nn x0 fun a49 =>
  ldI .i64 (a49.add 1) w4 fun n50 =>
  arith .i64 (n6 + x1) fun n51 =>
  arith .i64 (n50 + n51) fun n52 =>
  nn x0 fun a53 =>
  st (a53.add 1) (.int .i64 n52) w4 fun w5 =>
  R (.tuple #[.int .u64 n33, .int .i64 0]) w5)))))
@[irreducible] def wire_Reader_Num_ann : Ann := .seq .none (.seq .none (.seq .none (.seq .none (.seq (.seq (.draw [[], [0], [0, 1], [0, 1, 2], [0, 1, 2, 3], [], [5], [5, 6], [5, 6, 7], [0, 1, 2, 3, 4, 5, 6, 7, 8], [], [], [10, 11], [0, 1, 2, 3, 4, 5, 6, 7, 8, 9, 10, 11, 12]] [0, 1, 2, 3, 4, 5, 6, 7, 8, 9, 10, 11, 12, 13]) .none) (.seq (.seq (.draw [[], [0], [0, 1], [0, 1, 2], [], [4], [4, 5], [4, 5, 6], [], [8], [8, 9], [8, 9, 10], [], [8, 9, 10, 11, 12], [0, 1, 2, 3, 4, 5, 6, 7, 8, 9, 10, 11, 12, 13], [0, 1, 2, 3, 4, 5, 6, 7, 8, 9, 10, 11, 12, 13, 14], []] [0, 1, 2, 3, 4, 5, 6, 7, 8, 9, 10, 11, 12, 13, 14, 15, 16]) (.one (.loop [(52, .int .i64)] .none))) (.seq .none (.seq (.seq .none (.one (.loop [(9, .int .u64), (60, .int .i64)] (.seq .none (.seq .none (.seq (.one (.seq .none (.draw [[], [], [1], [1, 2], [1, 2, 3], [], [5], [5, 6], [5, 6, 7], [], [5, 6, 7, 8, 9], [], [5, 6, 7, 8, 9, 10, 11], [1, 2, 3, 4, 5, 6, 7, 8, 9, 10, 11, 12], [1, 2, 3, 4, 5, 6, 7, 8, 9, 10, 11, 12, 13], [1, 2, 3, 4, 5, 6, 7, 8, 9, 10, 11, 12, 13, 14], [], [16], [1, 2, 3, 4, 5, 6, 7, 8, 9, 10, 11, 12, 13, 14, 15, 16, 17], [0, 1, 2, 3, 4, 5, 6, 7, 8, 9, 10, 11, 12, 13, 14, 15, 16, 17, 18], [0, 1, 2, 3, 4, 5, 6, 7, 8, 9, 10, 11, 12, 13, 14, 15, 16, 17, 18, 19]] [0, 1, 2, 3, 4, 5, 6, 7, 8, 9, 10, 11, 12, 13, 14, 15, 16, 17, 18, 19, 20]))) .none)))))) .none)))))))
theorem wire_Reader_Num_call {x0 : Option Addr} {x1 : Int} {R : Value → World → Prop} {w : World} (h : wire_Reader_Num x0 x1 R w) : call Try.prog 24 #[.pointer x0, .int .i64 x1] w R :=
  call_of_fnW plain mixed Try.func24 wire_Reader_Num_ann (Eq.mp (by kernel_rfl : wire_Reader_Num x0 x1 R w = fnW Try.prog Try.f24 wire_Reader_Num_ann #[.pointer x0, .int .i64 x1] R w) h)

def wire_Reader_Text (x0 : Option Addr) (x1 : Int) (R : Value → World → Prop) (w : World) : Prop :=
  br x0.isNone (
  R (.tuple #[.slice none 0 0, .int .i64 6]) w) (
  nn x0 fun a1 =>
  ldI .i64 (a1.add 1) w fun n2 =>
  call Try.prog 24 #[.pointer x0, .int .i64 4] w fun v3 w1 =>
  ∃ (n4 : Int) (n5 : Int),
  v3 = .tuple #[.int .u64 n4, .int .i64 n5] ∧
  ∃ J6 : Int → World → Prop, (
  br ((n5 : Int) != 0) (
  J6 n5 w1) (
  br (decide ((x1 : Int) < 0)) (
  J6 20 w1) (
  arith .u64 x1 fun n7 =>
  br (decide ((n4 : Int) > n7)) (
  J6 20 w1) (
  call Try.prog 26 #[.pointer x0] w1 fun v8 w2 =>
  asI .i64 v8 fun n9 =>
  arith .u64 n9 fun n10 =>
  br (decide ((n4 : Int) > n10)) (
  J6 6 w2) (
  J6 n5 w2))))) ∧
  ∀ (u11 : Nat → Value) (n12 : Int) (w3 : World), J6 n12 w3 →
  br ((n12 : Int) != 0) (
  nn x0 fun a13 =>
  st (a13.add 1) (.int .i64 n2) w3 fun w4 =>
  R (.tuple #[.slice none 0 0, .int .i64 n12]) w4) (
  nn x0 fun a14 =>
  ldS (a14.add 0) w3.drew fun p15 l15 c15 =>
  nn x0 fun a16 =>
  ldI .i64 (a16.add 1) w3.drew fun n17 =>
  nn x0 fun a18 =>
  ldI .i64 (a18.add 1) w3.drew fun n19 =>
  arith .i64 n4 fun n20 =>
  arith .i64 (n19 + n20) fun n21 =>
  slc p15 c15 1 n17 n21 fun p22 l22 c22 =>
  call Try.prog 32 #[.slice p22 l22 c22] w3.drew fun v23 w5 =>
  asS v23 fun p24 l24 c24 =>
  nn x0 fun a25 =>
  ldI .i64 (a25.add 1) w5 fun n26 =>
  arith .i64 n4 fun n27 =>
  arith .i64 (n26 + n27) fun n28 =>
  nn x0 fun a29 =>
  st (a29.add 1) (.int .i64 n28) w5 fun w6 =>
  R (.tuple #[.slice p24 l24 c24, .int .i64 0]) w6))
@[irreducible] def wire_Reader_Text_ann : Ann := .seq .none (.seq .none (.seq .none (.seq .none (.meet [(8, .int .i64)] .none (.seq .none (.seq (.draw [[], [0], [0, 1], [0, 1, 2], [], [4], [4, 5], [4, 5, 6], [], [8], [8, 9], [8, 9, 10], [], [12], [8, 9, 10, 11, 12, 13], [0, 1, 2, 3, 4, 5, 6, 7, 8, 9, 10, 11, 12, 13, 14], [0, 1, 2, 3, 4, 5, 6, 7, 8, 9, 10, 11, 12, 13, 14, 15], [0, 1, 2, 3, 4, 5, 6, 7, 8, 9, 10, 11, 12, 13, 14, 15, 16]] [0, 1, 2, 3, 4, 5, 6, 7, 8, 9, 10, 11, 12, 13, 14, 15, 16, 17]) .none))))))
theorem wire_Reader_Text_call {x0 : Option Addr} {x1 : Int} {R : Value → World → Prop} {w : World} (h : wire_Reader_Text x0 x1 R w) : call Try.prog 25 #[.pointer x0, .int .i64 x1] w R :=
  call_of_fnW plain mixed Try.func25 wire_Reader_Text_ann (Eq.mp (by kernel_rfl : wire_Reader_Text x0 x1 R w = fnW Try.prog Try.f25 wire_Reader_Text_ann #[.pointer x0, .int .i64 x1] R w) h)

def wire_Reader_Left (x0 : Option Addr) (R : Value → World → Prop) (w : World) : Prop :=
  br x0.isNone (
  R (.int .i64 0) w) (
  nn x0 fun a1 =>
  ldS (a1.add 0) w.drew fun p2 l2 c2 =>
  nn x0 fun a3 =>
  ldI .i64 (a3.add 1) w.drew fun n4 =>
  arith .i64 ((l2 : Int) - n4) fun n5 =>
  R (.int .i64 n5) w.drew)
@[irreducible] def wire_Reader_Left_ann : Ann := .seq .none (.seq .none (.seq (.draw [[], [0], [0, 1], [0, 1, 2], [0, 1, 2, 3], [], [5], [5, 6], [5, 6, 7], [0, 1, 2, 3, 4, 5, 6, 7, 8], [0, 1, 2, 3, 4, 5, 6, 7, 8, 9]] [0, 1, 2, 3, 4, 5, 6, 7, 8, 9, 10]) .none))
theorem wire_Reader_Left_call {x0 : Option Addr} {R : Value → World → Prop} {w : World} (h : wire_Reader_Left x0 R w) : call Try.prog 26 #[.pointer x0] w R :=
  call_of_fnW plain mixed Try.func26 wire_Reader_Left_ann (Eq.mp (by kernel_rfl : wire_Reader_Left x0 R w = fnW Try.prog Try.f26 wire_Reader_Left_ann #[.pointer x0] R w) h)

def wire_Reader_End (x0 : Option Addr) (R : Value → World → Prop) (w : World) : Prop :=
  call Try.prog 26 #[.pointer x0] w fun v1 w1 =>
  asI .i64 v1 fun n2 =>
  br (decide ((n2 : Int) > 0)) (
  R (.int .i64 5) w1) (
  R (.int .i64 0) w1)
@[irreducible] def wire_Reader_End_ann : Ann := .none
theorem wire_Reader_End_call {x0 : Option Addr} {R : Value → World → Prop} {w : World} (h : wire_Reader_End x0 R w) : call Try.prog 27 #[.pointer x0] w R :=
  call_of_fnW plain mixed Try.func27 wire_Reader_End_ann (Eq.mp (by kernel_rfl : wire_Reader_End x0 R w = fnW Try.prog Try.f27 wire_Reader_End_ann #[.pointer x0] R w) h)

def tenonref05_ReadText (x0 : Option Addr) (y0 z0 : Nat) (x1 : Int) (x2 : Int) (R : Value → World → Prop) (w : World) : Prop :=
  call Try.prog 29 #[.slice x0 y0 z0, .int .i64 x1, .int .i64 4] w fun v1 w1 =>
  ∃ (n2 : Int) (n3 : Int) (n4 : Int),
  v1 = .tuple #[.int .u64 n2, .int .i64 n3, .int .i64 n4] ∧
  br ((n4 : Int) != 0) (
  R (.tuple #[.slice none 0 0, .int .i64 x1, .int .i64 n4]) w1) (
  br (decide ((x2 : Int) < 0)) (
  R (.tuple #[.slice none 0 0, .int .i64 x1, .int .i64 20]) w1) (
  arith .u64 x2 fun n5 =>
  br (decide ((n2 : Int) > n5)) (
  R (.tuple #[.slice none 0 0, .int .i64 x1, .int .i64 20]) w1) (
  arith .i64 ((y0 : Int) - n3) fun n6 =>
  arith .u64 n6 fun n7 =>
  br (decide ((n2 : Int) > n7)) (
  R (.tuple #[.slice none 0 0, .int .i64 x1, .int .i64 6]) w1) (
  arith .i64 n2 fun n8 =>
  arith .i64 (n3 + n8) fun n9 =>
  slc x0 z0 1 n3 n9 fun p10 l10 c10 =>
  runsS Try.prog (Builtin.append_ #[27, 27] 27 #[.slice none 0 0, .slice p10 l10 c10]) w1 fun p11 l11 c11 w2 =>
  arith .i64 n2 fun n12 =>
  arith .i64 (n3 + n12) fun n13 =>
  R (.tuple #[.slice p11 l11 c11, .int .i64 n13, .int .i64 0]) w2))))
@[irreducible] def tenonref05_ReadText_ann : Ann := .none
theorem tenonref05_ReadText_call {x0 : Option Addr} {y0 z0 : Nat} {x1 : Int} {x2 : Int} {R : Value → World → Prop} {w : World} (h : tenonref05_ReadText x0 y0 z0 x1 x2 R w) : call Try.prog 28 #[.slice x0 y0 z0, .int .i64 x1, .int .i64 x2] w R :=
  call_of_fnW plain mixed Try.func28 tenonref05_ReadText_ann (Eq.mp (by kernel_rfl : tenonref05_ReadText x0 y0 z0 x1 x2 R w = fnW Try.prog Try.f28 tenonref05_ReadText_ann #[.slice x0 y0 z0, .int .i64 x1, .int .i64 x2] R w) h)

def tenonref05_Read (x0 : Option Addr) (y0 z0 : Nat) (x1 : Int) (x2 : Int) (R : Value → World → Prop) (w : World) : Prop :=
  call Try.prog 17 #[.int .i64 x2] w fun v1 w1 =>
  asB v1 fun b2 =>
  br (!b2) (
  R (.tuple #[.int .u64 0, .int .i64 x1, .int .i64 1]) w1) (
  ∃ I3 : Int → World → Nat → Prop, (∃ m4, I3 x1 w1 m4) ∧
  ∀ (u5 : Nat → Value) (n6 : Int) (w2 : World) (m7 : Nat), I3 n6 w2 m7 →
  rem n6 x2 fun n8 =>
  br ((n8 : Int) != 0) (
  arith .i64 (n6 + 1) fun n9 =>
  ∃ m10, m10 < m7 ∧ I3 n9 w2 m10) (
  arith .i64 (n6 + x2) fun n11 =>
  br (decide ((n11 : Int) > (y0 : Int))) (
  R (.tuple #[.int .u64 0, .int .i64 x1, .int .i64 6]) w2) (
  ∃ I12 : Int → World → Nat → Prop, (∃ m13, I12 x1 w2 m13) ∧
  ∀ (u14 : Nat → Value) (n15 : Int) (w3 : World) (m16 : Nat), I12 n15 w3 m16 →
  br (decide ((n15 : Int) < n6)) (
  idx x0 y0 n15 1 fun a17 =>
  ldI .u8 a17 w3 fun n18 =>
  br ((n18 : Int) != 0) (
  R (.tuple #[.int .u64 0, .int .i64 x1, .int .i64 5]) w3) (
  arith .i64 (n15 + 1) fun n19 =>
  ∃ m20, m20 < m16 ∧ I12 n19 w3 m20)) (
  arith .i64 (x2 - 1) fun n21 =>
  ∃ I22 : Int → Int → World → Nat → Prop, (∃ m23, I22 0 n21 w3 m23) ∧
  ∀ (u24 : Nat → Value) (n25 : Int) (n26 : Int) (w4 : World) (m27 : Nat), I22 n25 n26 w4 m27 →
  br (decide ((n26 : Int) ≥ 0)) (
  arith .u64 (n25 * 256) fun n28 =>
  arith .i64 (n6 + n26) fun n29 =>
  idx x0 y0 n29 1 fun a30 =>
  ldI .u8 a30 w4 fun n31 =>
  arith .u64 n31 fun n32 =>
  arith .u64 (n28 + n32) fun n33 =>
  arith .i64 (n26 - 1) fun n34 =>
  ∃ m35, m35 < m27 ∧ I22 n33 n34 w4 m35) (
  arith .i64 (n6 + x2) fun n36 =>
  R (.tuple #[.int .u64 n25, .int .i64 n36, .int .i64 0]) w4)))))
@[irreducible] def tenonref05_Read_ann : Ann := .seq .none (.seq .none (.seq .none (.seq (.one (.loop [(9, .int .i64)] .none)) (.seq .none (.seq (.seq .none (.one (.loop [(10, .int .i64)] .none))) (.seq .none (.seq (.seq .none (.one (.loop [(11, .int .u64), (12, .int .i64)] .none))) .none)))))))
theorem tenonref05_Read_call {x0 : Option Addr} {y0 z0 : Nat} {x1 : Int} {x2 : Int} {R : Value → World → Prop} {w : World} (h : tenonref05_Read x0 y0 z0 x1 x2 R w) : call Try.prog 29 #[.slice x0 y0 z0, .int .i64 x1, .int .i64 x2] w R :=
  call_of_fnW plain mixed Try.func29 tenonref05_Read_ann (Eq.mp (by kernel_rfl : tenonref05_Read x0 y0 z0 x1 x2 R w = fnW Try.prog Try.f29 tenonref05_Read_ann #[.slice x0 y0 z0, .int .i64 x1, .int .i64 x2] R w) h)

def wire_fits (x0 : Int) (R : Value → World → Prop) (w : World) : Prop :=
  br ((x0 : Int) == 1) (
  R (.bool true) w) (
  br ((x0 : Int) == 2) (
  R (.bool true) w) (
  br ((x0 : Int) == 4) (
  R (.bool true) w) (
  R (.bool ((x0 : Int) == 8)) w)))
@[irreducible] def wire_fits_ann : Ann := .none
theorem wire_fits_call {x0 : Int} {R : Value → World → Prop} {w : World} (h : wire_fits x0 R w) : call Try.prog 30 #[.int .i64 x0] w R :=
  call_of_fnW plain mixed Try.func30 wire_fits_ann (Eq.mp (by kernel_rfl : wire_fits x0 R w = fnW Try.prog Try.f30 wire_fits_ann #[.int .i64 x0] R w) h)

def wire_gap (x0 : Int) (x1 : Int) (R : Value → World → Prop) (w : World) : Prop :=
  rem x0 x1 fun n1 =>
  arith .i64 (x1 - n1) fun n2 =>
  rem n2 x1 fun n3 =>
  R (.int .i64 n3) w
@[irreducible] def wire_gap_ann : Ann := .none
theorem wire_gap_call {x0 : Int} {x1 : Int} {R : Value → World → Prop} {w : World} (h : wire_gap x0 x1 R w) : call Try.prog 31 #[.int .i64 x0, .int .i64 x1] w R :=
  call_of_fnW plain mixed Try.func31 wire_gap_ann (Eq.mp (by kernel_rfl : wire_gap x0 x1 R w = fnW Try.prog Try.f31 wire_gap_ann #[.int .i64 x0, .int .i64 x1] R w) h)

def bytes_Clone (x0 : Option Addr) (y0 z0 : Nat) (R : Value → World → Prop) (w : World) : Prop :=
  br x0.isNone (
  R (.slice none 0 0) w) (
  new #[] 5 w fun k1 w1 =>
  runsS Try.prog (Builtin.append_ #[27, 27] 27 #[.slice (some (⟨k1, 0, none⟩ : Addr)) 0 0, .slice x0 y0 z0]) w1 fun p2 l2 c2 w2 =>
  R (.slice p2 l2 c2) w2)
@[irreducible] def bytes_Clone_ann : Ann := .none
theorem bytes_Clone_call {x0 : Option Addr} {y0 z0 : Nat} {R : Value → World → Prop} {w : World} (h : bytes_Clone x0 y0 z0 R w) : call Try.prog 32 #[.slice x0 y0 z0] w R :=
  call_of_fnW plain mixed Try.func32 bytes_Clone_ann (Eq.mp (by kernel_rfl : bytes_Clone x0 y0 z0 R w = fnW Try.prog Try.f32 bytes_Clone_ann #[.slice x0 y0 z0] R w) h)

end Go.Proofs.Ytagcmablmogofaa
