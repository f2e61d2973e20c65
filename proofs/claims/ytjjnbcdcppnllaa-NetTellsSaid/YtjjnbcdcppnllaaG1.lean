/- The shallow forms of the functions of the translation, printed by a program of this repository, each proved sound. No conditions. -/
import Derived.Test.YtjjnbcdcppnllaaChecked
import Derived.Test.YtjjnbcdcppnllaaSp5
import Derived.Eval
import Derived.Test.YtjjnbcdcppnllaaG0
set_option linter.unusedVariables false
namespace Go.Proofs.Ytjjnbcdcppnllaa
open Go.Sp

def packet_home (x0 : Int) (R : Value → World → Prop) (w : World) : Prop :=
  br (decide ((x0 : Int) ≥ 0)) (
  R (.bool (decide ((x0 : Int) < 4))) w) (
  R (.bool false) w)
@[irreducible] def packet_home_ann : Ann := .none
theorem packet_home_call {x0 : Int} {R : Value → World → Prop} {w : World} (h : packet_home x0 R w) : call Try.prog 46 #[.int .i64 x0] w R :=
  call_of_fnW plain mixed Try.func46 packet_home_ann (Eq.mp (by kernel_rfl : packet_home x0 R w = fnW Try.prog Try.f46 packet_home_ann #[.int .i64 x0] R w) h)

def packet_right (x0 : Array Value) (R : Value → World → Prop) (w : World) : Prop :=
  new x0 35 w fun k1 w1 =>
  ldA (⟨k1, 0, none⟩ : Addr) 25 w1 fun g2 =>
  call Try.prog 55 #[.agg g2] w1 fun v3 w2 =>
  asA v3 fun g4 =>
  new #[.int .i64 0, .int .i64 0, .int .i64 0, .int .u64 0, .int .u64 0, .int .u8 0, .int .u8 0, .int .u8 0, .int .u8 0, .int .u8 0, .int .u8 0, .int .u8 0, .int .u8 0, .int .u8 0, .int .u8 0, .int .u8 0, .int .u8 0, .int .u8 0, .int .u8 0, .int .u8 0, .int .u8 0, .int .i64 0, .int .i64 0, .int .i64 0, .slice none 0 0] 35 w2 fun k5 w3 =>
  stA Try.prog (⟨k5, 0, none⟩ : Addr) 25 g4 w3 fun w4 =>
  ldI .i64 ((⟨k1, 0, none⟩ : Addr).add 0) w4 fun n6 =>
  br ((n6 : Int) == 1) (
  ldI .i64 ((⟨k1, 0, none⟩ : Addr).add 21) w4 fun n7 =>
  br (decide ((n7 : Int) < 0)) (
  R (.bool false) w4) (
  ldI .i64 ((⟨k1, 0, none⟩ : Addr).add 21) w4 fun n8 =>
  br (decide ((n8 : Int) ≥ 8)) (
  R (.bool false) w4) (
  ldS ((⟨k1, 0, none⟩ : Addr).add 24) w4 fun p9 l9 c9 =>
  br (decide ((l9 : Int) > 1)) (
  R (.bool false) w4) (
  ldS ((⟨k1, 0, none⟩ : Addr).add 24) w4 fun p10 l10 c10 =>
  br ((l10 : Int) == 1) (
  ldS ((⟨k1, 0, none⟩ : Addr).add 24) w4 fun p11 l11 c11 =>
  idx p11 l11 0 36 fun a12 =>
  ldA a12 36 w4 fun g13 =>
  call Try.prog 51 #[.agg g13] w4 fun v14 w5 =>
  asI .i64 v14 fun n15 =>
  br ((n15 : Int) != 0) (
  R (.bool false) w5) (
  ldI .i64 ((⟨k1, 0, none⟩ : Addr).add 23) w5 fun n16 =>
  stA Try.prog (⟨k5, 0, none⟩ : Addr) 25 #[.int .i64 0, .int .i64 0, .int .i64 0, .int .u64 0, .int .u64 0, .int .u8 0, .int .u8 0, .int .u8 0, .int .u8 0, .int .u8 0, .int .u8 0, .int .u8 0, .int .u8 0, .int .u8 0, .int .u8 0, .int .u8 0, .int .u8 0, .int .u8 0, .int .u8 0, .int .u8 0, .int .u8 0, .int .i64 0, .int .i64 0, .int .i64 n16, .slice none 0 0] w5 fun w6 =>
  ldA (⟨k5, 0, none⟩ : Addr) 25 w6 fun g17 =>
  call Try.prog 56 #[.agg g17, .agg #[.int .i64 0, .int .i64 0, .int .i64 0, .int .u64 0, .int .u64 0, .int .u8 0, .int .u8 0, .int .u8 0, .int .u8 0, .int .u8 0, .int .u8 0, .int .u8 0, .int .u8 0, .int .u8 0, .int .u8 0, .int .u8 0, .int .u8 0, .int .u8 0, .int .u8 0, .int .u8 0, .int .u8 0, .int .i64 0, .int .i64 0, .int .i64 0, .slice none 0 0]] w6 fun v18 w7 =>
  asB v18 fun b19 =>
  R (.bool b19) w7)) (
  ldI .i64 ((⟨k1, 0, none⟩ : Addr).add 23) w4 fun n20 =>
  stA Try.prog (⟨k5, 0, none⟩ : Addr) 25 #[.int .i64 0, .int .i64 0, .int .i64 0, .int .u64 0, .int .u64 0, .int .u8 0, .int .u8 0, .int .u8 0, .int .u8 0, .int .u8 0, .int .u8 0, .int .u8 0, .int .u8 0, .int .u8 0, .int .u8 0, .int .u8 0, .int .u8 0, .int .u8 0, .int .u8 0, .int .u8 0, .int .u8 0, .int .i64 0, .int .i64 0, .int .i64 n20, .slice none 0 0] w4 fun w8 =>
  ldA (⟨k5, 0, none⟩ : Addr) 25 w8 fun g21 =>
  call Try.prog 56 #[.agg g21, .agg #[.int .i64 0, .int .i64 0, .int .i64 0, .int .u64 0, .int .u64 0, .int .u8 0, .int .u8 0, .int .u8 0, .int .u8 0, .int .u8 0, .int .u8 0, .int .u8 0, .int .u8 0, .int .u8 0, .int .u8 0, .int .u8 0, .int .u8 0, .int .u8 0, .int .u8 0, .int .u8 0, .int .u8 0, .int .i64 0, .int .i64 0, .int .i64 0, .slice none 0 0]] w8 fun v22 w9 =>
  asB v22 fun b23 =>
  R (.bool b23) w9))))) (
  br ((n6 : Int) == 2) (
  ldI .i64 ((⟨k1, 0, none⟩ : Addr).add 23) w4 fun n24 =>
  br (decide ((n24 : Int) < 0)) (
  R (.bool false) w4) (
  ldI .i64 ((⟨k1, 0, none⟩ : Addr).add 23) w4 fun n25 =>
  br (decide ((n25 : Int) > 20)) (
  R (.bool false) w4) (
  st ((⟨k5, 0, none⟩ : Addr).add 4) (.int .u64 0) w4 fun w10 =>
  st ((⟨k5, 0, none⟩ : Addr).add 23) (.int .i64 0) w10 fun w11 =>
  st ((⟨k5, 0, none⟩ : Addr).add 22) (.int .i64 0) w11 fun w12 =>
  ldA (⟨k5, 0, none⟩ : Addr) 25 w12 fun g26 =>
  call Try.prog 56 #[.agg g26, .agg #[.int .i64 0, .int .i64 0, .int .i64 0, .int .u64 0, .int .u64 0, .int .u8 0, .int .u8 0, .int .u8 0, .int .u8 0, .int .u8 0, .int .u8 0, .int .u8 0, .int .u8 0, .int .u8 0, .int .u8 0, .int .u8 0, .int .u8 0, .int .u8 0, .int .u8 0, .int .u8 0, .int .u8 0, .int .i64 0, .int .i64 0, .int .i64 0, .slice none 0 0]] w12 fun v27 w13 =>
  asB v27 fun b28 =>
  R (.bool b28) w13))) (
  ∃ J29 : Bool → World → Prop, (
  br ((n6 : Int) == 3) (
  J29 ((n6 : Int) == 3) w4) (
  J29 ((n6 : Int) == 4) w4)) ∧
  ∀ (u30 : Nat → Value) (b31 : Bool) (w14 : World), J29 b31 w14 →
  br b31 (
  ldI .i64 ((⟨k1, 0, none⟩ : Addr).add 22) w14 fun n32 =>
  br (decide ((n32 : Int) < 1)) (
  R (.bool false) w14) (
  ldI .i64 ((⟨k1, 0, none⟩ : Addr).add 22) w14 fun n33 =>
  br (decide ((n33 : Int) > 4294967295)) (
  R (.bool false) w14) (
  stA Try.prog ((⟨k5, 0, none⟩ : Addr).add 5) 16 #[.int .u8 0, .int .u8 0, .int .u8 0, .int .u8 0, .int .u8 0, .int .u8 0, .int .u8 0, .int .u8 0, .int .u8 0, .int .u8 0, .int .u8 0, .int .u8 0, .int .u8 0, .int .u8 0, .int .u8 0, .int .u8 0] w14 fun w15 =>
  st ((⟨k5, 0, none⟩ : Addr).add 22) (.int .i64 0) w15 fun w16 =>
  ldA (⟨k5, 0, none⟩ : Addr) 25 w16 fun g34 =>
  call Try.prog 56 #[.agg g34, .agg #[.int .i64 0, .int .i64 0, .int .i64 0, .int .u64 0, .int .u64 0, .int .u8 0, .int .u8 0, .int .u8 0, .int .u8 0, .int .u8 0, .int .u8 0, .int .u8 0, .int .u8 0, .int .u8 0, .int .u8 0, .int .u8 0, .int .u8 0, .int .u8 0, .int .u8 0, .int .u8 0, .int .u8 0, .int .i64 0, .int .i64 0, .int .i64 0, .slice none 0 0]] w16 fun v35 w17 =>
  asB v35 fun b36 =>
  R (.bool b36) w17))) (
  br ((n6 : Int) == 5) (
  ldA (⟨k5, 0, none⟩ : Addr) 25 w14 fun g37 =>
  call Try.prog 56 #[.agg g37, .agg #[.int .i64 0, .int .i64 0, .int .i64 0, .int .u64 0, .int .u64 0, .int .u8 0, .int .u8 0, .int .u8 0, .int .u8 0, .int .u8 0, .int .u8 0, .int .u8 0, .int .u8 0, .int .u8 0, .int .u8 0, .int .u8 0, .int .u8 0, .int .u8 0, .int .u8 0, .int .u8 0, .int .u8 0, .int .i64 0, .int .i64 0, .int .i64 0, .slice none 0 0]] w14 fun v38 w18 =>
  asB v38 fun b39 =>
  R (.bool b39) w18) (
  R (.bool false) w14))))
@[irreducible] def packet_right_ann : Ann := .seq .none (.seq .none (.seq (.seq .none (.one (.seq .none (.seq .none (.seq .none (.seq .none (.meet [(54, .bool)] .none .none))))))) .none))
theorem packet_right_call {x0 : Array Value} {R : Value → World → Prop} {w : World} (h : packet_right x0 R w) : call Try.prog 47 #[.agg x0] w R :=
  call_of_fnW plain mixed Try.func47 packet_right_ann (Eq.mp (by kernel_rfl : packet_right x0 R w = fnW Try.prog Try.f47 packet_right_ann #[.agg x0] R w) h)

def wire_fits (x0 : Int) (R : Value → World → Prop) (w : World) : Prop :=
  br ((x0 : Int) == 1) (
  R (.bool true) w) (
  br ((x0 : Int) == 2) (
  R (.bool true) w) (
  br ((x0 : Int) == 4) (
  R (.bool true) w) (
  R (.bool ((x0 : Int) == 8)) w)))
@[irreducible] def wire_fits_ann : Ann := .none
theorem wire_fits_call {x0 : Int} {R : Value → World → Prop} {w : World} (h : wire_fits x0 R w) : call Try.prog 48 #[.int .i64 x0] w R :=
  call_of_fnW plain mixed Try.func48 wire_fits_ann (Eq.mp (by kernel_rfl : wire_fits x0 R w = fnW Try.prog Try.f48 wire_fits_ann #[.int .i64 x0] R w) h)

def wire_gap (x0 : Int) (x1 : Int) (R : Value → World → Prop) (w : World) : Prop :=
  rem x0 x1 fun n1 =>
  arith .i64 (x1 - n1) fun n2 =>
  rem n2 x1 fun n3 =>
  R (.int .i64 n3) w
@[irreducible] def wire_gap_ann : Ann := .none
theorem wire_gap_call {x0 : Int} {x1 : Int} {R : Value → World → Prop} {w : World} (h : wire_gap x0 x1 R w) : call Try.prog 49 #[.int .i64 x0, .int .i64 x1] w R :=
  call_of_fnW plain mixed Try.func49 wire_gap_ann (Eq.mp (by kernel_rfl : wire_gap x0 x1 R w = fnW Try.prog Try.f49 wire_gap_ann #[.int .i64 x0, .int .i64 x1] R w) h)

def bytes_Clone (x0 : Option Addr) (y0 z0 : Nat) (R : Value → World → Prop) (w : World) : Prop :=
  br x0.isNone (
  R (.slice none 0 0) w) (
  new #[] 5 w fun k1 w1 =>
  runsS Try.prog (Builtin.append_ #[66, 66] 66 #[.slice (some (⟨k1, 0, none⟩ : Addr)) 0 0, .slice x0 y0 z0]) w1 fun p2 l2 c2 w2 =>
  R (.slice p2 l2 c2) w2)
@[irreducible] def bytes_Clone_ann : Ann := .none
theorem bytes_Clone_call {x0 : Option Addr} {y0 z0 : Nat} {R : Value → World → Prop} {w : World} (h : bytes_Clone x0 y0 z0 R w) : call Try.prog 50 #[.slice x0 y0 z0] w R :=
  call_of_fnW plain mixed Try.func50 bytes_Clone_ann (Eq.mp (by kernel_rfl : bytes_Clone x0 y0 z0 R w = fnW Try.prog Try.f50 bytes_Clone_ann #[.slice x0 y0 z0] R w) h)

def objref_Check (x0 : Array Value) (R : Value → World → Prop) (w : World) : Prop :=
  new x0 77 w fun k1 w1 =>
  ldI .u32 ((⟨k1, 0, none⟩ : Addr).add 0) w1 fun n2 =>
  br (decide ((n2 : Int) > 2)) (
  R (.int .i64 5) w1) (
  ldI .u32 ((⟨k1, 0, none⟩ : Addr).add 0) w1 fun n3 =>
  ldI .u32 ((⟨k1, 0, none⟩ : Addr).add 1) w1 fun n4 =>
  br (!(((n3 : Int) == 0) == (decide ((n4 : Int) > 0)))) (
  R (.int .i64 5) w1) (
  R (.int .i64 0) w1))
@[irreducible] def objref_Check_ann : Ann := .none
theorem objref_Check_call {x0 : Array Value} {R : Value → World → Prop} {w : World} (h : objref_Check x0 R w) : call Try.prog 51 #[.agg x0] w R :=
  call_of_fnW plain mixed Try.func51 objref_Check_ann (Eq.mp (by kernel_rfl : objref_Check x0 R w = fnW Try.prog Try.f51 objref_Check_ann #[.agg x0] R w) h)

def objref_name (x0 : Option Addr) (R : Value → World → Prop) (w : World) : Prop :=
  new #[.int .u8 0, .int .u8 0, .int .u8 0, .int .u8 0, .int .u8 0, .int .u8 0, .int .u8 0, .int .u8 0, .int .u8 0, .int .u8 0, .int .u8 0, .int .u8 0, .int .u8 0, .int .u8 0, .int .u8 0, .int .u8 0] 32 w fun k1 w1 =>
  new #[.int .u8 0, .int .u8 0, .int .u8 0, .int .u8 0, .int .u8 0, .int .u8 0, .int .u8 0, .int .u8 0, .int .u8 0, .int .u8 0, .int .u8 0, .int .u8 0, .int .u8 0, .int .u8 0, .int .u8 0, .int .u8 0] 32 w1 fun k2 w2 =>
  ∃ I3 : Int → World → Nat → Prop, (∃ m4, I3 0 w2 m4) ∧
  ∀ (u5 : Nat → Value) (n6 : Int) (w3 : World) (m7 : Nat), I3 n6 w3 m7 →
  br (decide ((n6 : Int) < 16)) (
  call Try.prog 39 #[.pointer x0, .int .i64 1] w3 fun v8 w4 =>
  ∃ (n9 : Int) (n10 : Int),
  v8 = .tuple #[.int .u64 n9, .int .i64 n10] ∧
  arith .u8 n9 fun n11 =>
  idxA (⟨k2, 0, none⟩ : Addr) 16 n6 1 fun a12 =>
  st a12 (.int .u8 n11) w4 fun w5 =>
  arith .i64 (n6 + 1) fun n13 =>
  ∃ m14, m14 < m7 ∧ I3 n13 w5 m14) (
  ldA (⟨k2, 0, none⟩ : Addr) 16 w3 fun g15 =>
  stA Try.prog (⟨k1, 0, none⟩ : Addr) 16 g15 w3 fun w6 =>
  ldA (⟨k1, 0, none⟩ : Addr) 16 w6 fun g16 =>
  R (.agg g16) w6)
@[irreducible] def objref_name_ann : Ann := .seq .none (.seq .none (.seq (.seq .none (.one (.loop [(7, .int .i64)] .none))) .none))
theorem objref_name_call {x0 : Option Addr} {R : Value → World → Prop} {w : World} (h : objref_name x0 R w) : call Try.prog 52 #[.pointer x0] w R :=
  call_of_fnW plain mixed Try.func52 objref_name_ann (Eq.mp (by kernel_rfl : objref_name x0 R w = fnW Try.prog Try.f52 objref_name_ann #[.pointer x0] R w) h)

def wire_Reader_End (x0 : Option Addr) (R : Value → World → Prop) (w : World) : Prop :=
  call Try.prog 41 #[.pointer x0] w fun v1 w1 =>
  asI .i64 v1 fun n2 =>
  br (decide ((n2 : Int) > 0)) (
  R (.int .i64 5) w1) (
  R (.int .i64 0) w1)
@[irreducible] def wire_Reader_End_ann : Ann := .none
theorem wire_Reader_End_call {x0 : Option Addr} {R : Value → World → Prop} {w : World} (h : wire_Reader_End x0 R w) : call Try.prog 53 #[.pointer x0] w R :=
  call_of_fnW plain mixed Try.func53 wire_Reader_End_ann (Eq.mp (by kernel_rfl : wire_Reader_End x0 R w = fnW Try.prog Try.f53 wire_Reader_End_ann #[.pointer x0] R w) h)

def tenonref07_Right (x0 : Array Value) (R : Value → World → Prop) (w : World) : Prop :=
  new x0 77 w fun k1 w1 =>
  ldI .u32 ((⟨k1, 0, none⟩ : Addr).add 0) w1 fun n2 =>
  br ((n2 : Int) == 0) (
  ldI .u32 ((⟨k1, 0, none⟩ : Addr).add 1) w1 fun n3 =>
  R (.bool (decide ((n3 : Int) > 0))) w1) (
  br ((n2 : Int) == 1) (
  br ((n2 : Int) == 1) (
  ldI .u32 ((⟨k1, 0, none⟩ : Addr).add 1) w1 fun n4 =>
  R (.bool ((n4 : Int) == 0)) w1) (
  R (.bool false) w1)) (
  br ((n2 : Int) == 2) (
  ldI .u32 ((⟨k1, 0, none⟩ : Addr).add 1) w1 fun n5 =>
  R (.bool ((n5 : Int) == 0)) w1) (
  R (.bool false) w1)))
@[irreducible] def tenonref07_Right_ann : Ann := .none
theorem tenonref07_Right_call {x0 : Array Value} {R : Value → World → Prop} {w : World} (h : tenonref07_Right x0 R w) : call Try.prog 54 #[.agg x0] w R :=
  call_of_fnW plain mixed Try.func54 tenonref07_Right_ann (Eq.mp (by kernel_rfl : tenonref07_Right x0 R w = fnW Try.prog Try.f54 tenonref07_Right_ann #[.agg x0] R w) h)

def packet_bare (x0 : Array Value) (R : Value → World → Prop) (w : World) : Prop :=
  new x0 35 w fun k1 w1 =>
  new #[.int .i64 0, .int .i64 0, .int .i64 0, .int .u64 0, .int .u64 0, .int .u8 0, .int .u8 0, .int .u8 0, .int .u8 0, .int .u8 0, .int .u8 0, .int .u8 0, .int .u8 0, .int .u8 0, .int .u8 0, .int .u8 0, .int .u8 0, .int .u8 0, .int .u8 0, .int .u8 0, .int .u8 0, .int .i64 0, .int .i64 0, .int .i64 0, .slice none 0 0] 35 w1 fun k2 w2 =>
  st ((⟨k1, 0, none⟩ : Addr).add 0) (.int .i64 0) w2 fun w3 =>
  st ((⟨k1, 0, none⟩ : Addr).add 1) (.int .i64 0) w3 fun w4 =>
  st ((⟨k1, 0, none⟩ : Addr).add 2) (.int .i64 0) w4 fun w5 =>
  st ((⟨k1, 0, none⟩ : Addr).add 3) (.int .u64 0) w5 fun w6 =>
  ldA (⟨k1, 0, none⟩ : Addr) 25 w6 fun g3 =>
  stA Try.prog (⟨k2, 0, none⟩ : Addr) 25 g3 w6 fun w7 =>
  ldA (⟨k2, 0, none⟩ : Addr) 25 w7 fun g4 =>
  R (.agg g4) w7
@[irreducible] def packet_bare_ann : Ann := .none
theorem packet_bare_call {x0 : Array Value} {R : Value → World → Prop} {w : World} (h : packet_bare x0 R w) : call Try.prog 55 #[.agg x0] w R :=
  call_of_fnW plain mixed Try.func55 packet_bare_ann (Eq.mp (by kernel_rfl : packet_bare x0 R w = fnW Try.prog Try.f55 packet_bare_ann #[.agg x0] R w) h)

def packet_Same (x0 : Array Value) (x1 : Array Value) (R : Value → World → Prop) (w : World) : Prop :=
  new x0 35 w fun k1 w1 =>
  new x1 35 w1 fun k2 w2 =>
  ldI .i64 ((⟨k1, 0, none⟩ : Addr).add 0) w2 fun n3 =>
  ldI .i64 ((⟨k2, 0, none⟩ : Addr).add 0) w2 fun n4 =>
  br ((n3 : Int) == n4) (
  ldI .i64 ((⟨k1, 0, none⟩ : Addr).add 1) w2 fun n5 =>
  ldI .i64 ((⟨k2, 0, none⟩ : Addr).add 1) w2 fun n6 =>
  br ((n5 : Int) == n6) (
  ldI .i64 ((⟨k1, 0, none⟩ : Addr).add 2) w2 fun n7 =>
  ldI .i64 ((⟨k2, 0, none⟩ : Addr).add 2) w2 fun n8 =>
  br ((n7 : Int) == n8) (
  ldI .u64 ((⟨k1, 0, none⟩ : Addr).add 3) w2 fun n9 =>
  ldI .u64 ((⟨k2, 0, none⟩ : Addr).add 3) w2 fun n10 =>
  br ((n9 : Int) == n10) (
  ldI .u64 ((⟨k1, 0, none⟩ : Addr).add 4) w2 fun n11 =>
  ldI .u64 ((⟨k2, 0, none⟩ : Addr).add 4) w2 fun n12 =>
  br ((n11 : Int) == n12) (
  ldA ((⟨k1, 0, none⟩ : Addr).add 5) 16 w2 fun g13 =>
  ldA ((⟨k2, 0, none⟩ : Addr).add 5) 16 w2 fun g14 =>
  still Try.prog (Op.equal 32 (.agg g13) (.agg g14)) fun b15 =>
  br b15 (
  ldI .i64 ((⟨k1, 0, none⟩ : Addr).add 21) w2 fun n16 =>
  ldI .i64 ((⟨k2, 0, none⟩ : Addr).add 21) w2 fun n17 =>
  br ((n16 : Int) == n17) (
  ldI .i64 ((⟨k1, 0, none⟩ : Addr).add 22) w2 fun n18 =>
  ldI .i64 ((⟨k2, 0, none⟩ : Addr).add 22) w2 fun n19 =>
  br ((n18 : Int) == n19) (
  ldI .i64 ((⟨k1, 0, none⟩ : Addr).add 23) w2 fun n20 =>
  ldI .i64 ((⟨k2, 0, none⟩ : Addr).add 23) w2 fun n21 =>
  br ((n20 : Int) == n21) (
  ldS ((⟨k1, 0, none⟩ : Addr).add 24) w2 fun p22 l22 c22 =>
  ldS ((⟨k2, 0, none⟩ : Addr).add 24) w2 fun p23 l23 c23 =>
  call Try.prog 57 #[.slice p22 l22 c22, .slice p23 l23 c23] w2 fun v24 w3 =>
  asB v24 fun b25 =>
  R (.bool b25) w3) (
  R (.bool false) w2)) (
  R (.bool false) w2)) (
  R (.bool false) w2)) (
  R (.bool false) w2)) (
  R (.bool false) w2)) (
  R (.bool false) w2)) (
  R (.bool false) w2)) (
  R (.bool false) w2)) (
  R (.bool false) w2)
@[irreducible] def packet_Same_ann : Ann := .none
theorem packet_Same_call {x0 : Array Value} {x1 : Array Value} {R : Value → World → Prop} {w : World} (h : packet_Same x0 x1 R w) : call Try.prog 56 #[.agg x0, .agg x1] w R :=
  call_of_fnW plain mixed Try.func56 packet_Same_ann (Eq.mp (by kernel_rfl : packet_Same x0 x1 R w = fnW Try.prog Try.f56 packet_Same_ann #[.agg x0, .agg x1] R w) h)

def slices_Equal (x0 : Option Addr) (y0 z0 : Nat) (x1 : Option Addr) (y1 z1 : Nat) (R : Value → World → Prop) (w : World) : Prop :=
  br ((y0 : Int) != (y1 : Int)) (
  R (.bool false) w) (
  ∃ I1 : Int → World → Nat → Prop, (∃ m2, I1 0 w m2) ∧
  ∀ (u3 : Nat → Value) (n4 : Int) (w1 : World) (m5 : Nat), I1 n4 w1 m5 →
  br (decide ((n4 : Int) < (y0 : Int))) (
  idx x0 y0 n4 36 fun a6 =>
  ldA a6 36 w1.drew fun g7 =>
  idx x1 y1 n4 36 fun a8 =>
  ldA a8 36 w1.drew fun g9 =>
  still Try.prog (Op.equal 77 (.agg g7) (.agg g9)) fun b10 =>
  br (!b10) (
  R (.bool false) w1.drew) (
  arith .i64 (n4 + 1) fun n11 =>
  ∃ m12, m12 < m5 ∧ I1 n11 w1.drew m12)) (
  R (.bool true) w1))
@[irreducible] def slices_Equal_ann : Ann := .seq .none (.seq .none (.seq (.seq .none (.one (.loop [(13, .int .i64)] (.seq .none (.seq .none (.seq (.one (.seq .none (.seq (.draw [[], [], [0, 1], [0, 1, 2], [], [], [4, 5], [4, 5, 6], [0, 1, 2, 3, 4, 5, 6, 7]] (ol [0, 1, 2, 3, 4, 5, 6, 7, 8] .nil)) .none))) .none)))))) .none))
theorem slices_Equal_call {x0 : Option Addr} {y0 z0 : Nat} {x1 : Option Addr} {y1 z1 : Nat} {R : Value → World → Prop} {w : World} (h : slices_Equal x0 y0 z0 x1 y1 z1 R w) : call Try.prog 57 #[.slice x0 y0 z0, .slice x1 y1 z1] w R :=
  call_of_fnW plain mixed Try.func57 slices_Equal_ann (Eq.mp (by kernel_rfl : slices_Equal x0 y0 z0 x1 y1 z1 R w = fnW Try.prog Try.f57 slices_Equal_ann #[.slice x0 y0 z0, .slice x1 y1 z1] R w) h)

end Go.Proofs.Ytjjnbcdcppnllaa
