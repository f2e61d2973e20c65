/- The shallow forms of the functions of the translation, printed by a program of this repository, each proved sound. No conditions. -/
import Derived.Test.YtgchemgnmijpdaaChecked
import Derived.Test.YtgchemgnmijpdaaSp5
import Derived.Eval
import Derived.Test.YtgchemgnmijpdaaG0
set_option linter.unusedVariables false
namespace Go.Proofs.Ytgchemgnmijpdaa
open Go.Sp

def tenonref11_Heap_Make (x0 : Option Addr) (x1 : Int) (x2 : Int) (R : Value → World → Prop) (w : World) : Prop :=
  br (decide ((x1 : Int) < 0)) (
  R (.tuple #[.int .u64 0, .int .i64 1]) w) (
  br (decide ((x1 : Int) > 8)) (
  R (.tuple #[.int .u64 0, .int .i64 1]) w) (
  ∃ J1 : Option Addr → World → Prop, (
  br ((x2 : Int) != 0) (
  call Try.prog 50 #[.pointer x0, .int .u64 x2] w fun v2 w1 =>
  asP v2 fun p3 =>
  br p3.isNone (
  R (.tuple #[.int .u64 0, .int .i64 2]) w1) (
  nn p3 fun a4 =>
  ldI .u64 (a4.add 1) w1 fun n5 =>
  br ((n5 : Int) != 0) (
  R (.tuple #[.int .u64 0, .int .i64 1]) w1) (
  J1 p3 w1))) (
  J1 none w)) ∧
  ∀ (u6 : Nat → Value) (p7 : Option Addr) (w2 : World), J1 p7 w2 →
  nn x0 fun a8 =>
  ldP (a8.add 1) w2 fun p9 =>
  call Try.prog 60 #[.pointer p9, .int .i64 0] w2 fun v10 w3 =>
  asI .u64 v10 fun n11 =>
  br ((n11 : Int) == 0) (
  R (.tuple #[.int .u64 0, .int .i64 3]) w3) (
  nn x0 fun a12 =>
  ldS (a12.add 2) w3.drew fun p13 l13 c13 =>
  runsS Try.prog (Instr.makeSlice 78 (.int .i64 x1) (.int .i64 x1)) w3.drew fun p14 l14 c14 w4 =>
  w4.cell? (a12.add 2) = some (.slice p13 l13 c13) ∧
  new #[.int .u64 n11, .int .u64 x2, .int .u32 1, .int .i64 0, .slice p14 l14 c14, .slice none 0 0] 116 w4 fun k15 w5 =>
  new #[.pointer (some (⟨k15, 0, none⟩ : Addr))] 113 w5 fun k16 w6 =>
  runsS Try.prog (Builtin.append_ #[68, 68] 68 #[.slice p13 l13 c13, .slice (some (⟨k16, 0, none⟩ : Addr)) 1 1]) w6 fun p17 l17 c17 w7 =>
  nn x0 fun a18 =>
  st (a18.add 2) (.slice p17 l17 c17) w7 fun w8 =>
  br (!p7.isNone) (
  nn p7 fun a19 =>
  ldS (a19.add 5) w8 fun p20 l20 c20 =>
  new #[.int .u64 n11] 29 w8 fun k21 w9 =>
  runsS Try.prog (Builtin.append_ #[28, 28] 28 #[.slice p20 l20 c20, .slice (some (⟨k21, 0, none⟩ : Addr)) 1 1]) w9 fun p22 l22 c22 w10 =>
  nn p7 fun a23 =>
  st (a23.add 5) (.slice p22 l22 c22) w10 fun w11 =>
  R (.tuple #[.int .u64 n11, .int .i64 0]) w11) (
  R (.tuple #[.int .u64 n11, .int .i64 0]) w8))))
@[irreducible] def tenonref11_Heap_Make_ann : Ann := .seq .none (.seq .none (.seq .none (.meet [(8, .ptr)] .none (.seq .none (.seq .none (.seq (.draw [[], [], [1], [1, 2], [1, 2, 3], [], [], [], [7], [5, 6, 7, 8], [5, 6, 7, 8, 9], [5, 6, 7, 8, 9, 10], [1, 2, 3, 4, 5, 6, 7, 8, 9, 10, 11], [0, 1, 2, 3, 4, 5, 6, 7, 8, 9, 10, 11, 12], [0, 1, 2, 3, 4, 5, 6, 7, 8, 9, 10, 11, 12, 13], [0, 1, 2, 3, 4, 5, 6, 7, 8, 9, 10, 11, 12, 13, 14]] (ol [0, 1, 2, 3, 4, 5, 6, 7, 8, 9, 10, 11, 12, 13, 14, 15] .nil)) .none))))))
theorem tenonref11_Heap_Make_call {x0 : Option Addr} {x1 : Int} {x2 : Int} {R : Value → World → Prop} {w : World} (h : tenonref11_Heap_Make x0 x1 x2 R w) : call Try.prog 44 #[.pointer x0, .int .i64 x1, .int .u64 x2] w R :=
  call_of_fnW plain mixed Try.func44 tenonref11_Heap_Make_ann (Eq.mp (by kernel_rfl : tenonref11_Heap_Make x0 x1 x2 R w = fnW Try.prog Try.f44 tenonref11_Heap_Make_ann #[.pointer x0, .int .i64 x1, .int .u64 x2] R w) h)

def tenonref11_Heap_Up (x0 : Option Addr) (x1 : Int) (R : Value → World → Prop) (w : World) : Prop :=
  call Try.prog 51 #[.pointer x0, .int .u64 x1] w fun v1 w1 =>
  asP v1 fun p2 =>
  br p2.isNone (
  R (.tuple #[.int .u32 0, .int .i64 2]) w1) (
  nn p2 fun a3 =>
  ldI .u32 (a3.add 2) w1.drew fun n4 =>
  nn x0 fun a5 =>
  ldI .u32 (a5.add 0) w1.drew fun n6 =>
  br ((n4 : Int) == n6) (
  R (.tuple #[.int .u32 0, .int .i64 4]) w1.drew) (
  nn p2 fun a7 =>
  ldI .u32 (a7.add 2) w1.drew fun n8 =>
  arith .u32 (n8 + 1) fun n9 =>
  nn p2 fun a10 =>
  st (a10.add 2) (.int .u32 n9) w1.drew fun w2 =>
  nn p2 fun a11 =>
  ldI .u32 (a11.add 2) w2 fun n12 =>
  R (.tuple #[.int .u32 n12, .int .i64 0]) w2))
@[irreducible] def tenonref11_Heap_Up_ann : Ann := .seq .none (.seq .none (.seq .none (.seq (.seq (.draw [[], [0], [0, 1], [0, 1, 2], [], [4], [4, 5], [4, 5, 6], [0, 1, 2, 3, 4, 5, 6, 7]] (ol [0, 1, 2, 3, 4, 5, 6, 7, 8] .nil)) .none) .none)))
theorem tenonref11_Heap_Up_call {x0 : Option Addr} {x1 : Int} {R : Value → World → Prop} {w : World} (h : tenonref11_Heap_Up x0 x1 R w) : call Try.prog 45 #[.pointer x0, .int .u64 x1] w R :=
  call_of_fnW plain mixed Try.func45 tenonref11_Heap_Up_ann (Eq.mp (by kernel_rfl : tenonref11_Heap_Up x0 x1 R w = fnW Try.prog Try.f45 tenonref11_Heap_Up_ann #[.pointer x0, .int .u64 x1] R w) h)

def tenonref11_Heap_Down (x0 : Option Addr) (x1 : Int) (R : Value → World → Prop) (w : World) : Prop :=
  call Try.prog 50 #[.pointer x0, .int .u64 x1] w fun v1 w1 =>
  asP v1 fun p2 =>
  br p2.isNone (
  R (.tuple #[.slice none 0 0, .slice none 0 0, .int .i64 2]) w1) (
  (#[.int .i64 1, .int .u64 x1] : Array Value).size = 2 ∧
  new #[.int .i64 1, .int .u64 x1] 35 w1 fun k3 w2 =>
  call Try.prog 61 #[.pointer x0, .slice none 0 0, .slice (some (⟨k3, 0, none⟩ : Addr)) 1 1] w2 fun v4 w3 =>
  ∃ (p5 : Option Addr) (l5 c5 : Nat) (p6 : Option Addr) (l6 c6 : Nat),
  v4 = .tuple #[.slice p5 l5 c5, .slice p6 l6 c6] ∧
  R (.tuple #[.slice p5 l5 c5, .slice p6 l6 c6, .int .i64 0]) w3)
@[irreducible] def tenonref11_Heap_Down_ann : Ann := .none
theorem tenonref11_Heap_Down_call {x0 : Option Addr} {x1 : Int} {R : Value → World → Prop} {w : World} (h : tenonref11_Heap_Down x0 x1 R w) : call Try.prog 46 #[.pointer x0, .int .u64 x1] w R :=
  call_of_fnW plain mixed Try.func46 tenonref11_Heap_Down_ann (Eq.mp (by kernel_rfl : tenonref11_Heap_Down x0 x1 R w = fnW Try.prog Try.f46 tenonref11_Heap_Down_ann #[.pointer x0, .int .u64 x1] R w) h)

def tenonlaw11_Pair_link (x0 : Option Addr) (x1 : Array Value) (R : Value → World → Prop) (w : World) : Prop :=
  new x1 47 w fun k1 w1 =>
  new #[.int .i64 0, .int .u64 0] 35 w1 fun k2 w2 =>
  ldI .i64 ((⟨k1, 0, none⟩ : Addr).add 3) w2 fun n3 =>
  call Try.prog 10 #[.int .i64 n3, .int .i64 5] w2 fun v4 w3 =>
  asI .i64 v4 fun n5 =>
  br ((n5 : Int) == 0) (
  stA Try.prog (⟨k2, 0, none⟩ : Addr) 2 #[.int .i64 0, .int .u64 0] w3 fun w4 =>
  ldA (⟨k2, 0, none⟩ : Addr) 2 w4 fun g6 =>
  R (.agg g6) w4) (
  br ((n5 : Int) == 1) (
  ldI .u64 ((⟨k1, 0, none⟩ : Addr).add 4) w3 fun n7 =>
  ldI .i64 ((⟨k1, 0, none⟩ : Addr).add 1) w3 fun n8 =>
  arith .u64 (bitw .and .i64 n8 7) fun n9 =>
  arith .u64 (n7 + n9) fun n10 =>
  stA Try.prog (⟨k2, 0, none⟩ : Addr) 2 #[.int .i64 2, .int .u64 n10] w3 fun w5 =>
  ldA (⟨k2, 0, none⟩ : Addr) 2 w5 fun g11 =>
  R (.agg g11) w5) (
  br ((n5 : Int) == 2) (
  ldI .i64 ((⟨k1, 0, none⟩ : Addr).add 1) w3 fun n12 =>
  ldI .u64 ((⟨k1, 0, none⟩ : Addr).add 4) w3 fun n13 =>
  stA Try.prog (⟨k2, 0, none⟩ : Addr) 2 #[.int .i64 n12, .int .u64 n13] w3 fun w6 =>
  ldA (⟨k2, 0, none⟩ : Addr) 2 w6 fun g14 =>
  R (.agg g14) w6) (
  ldI .i64 ((⟨k1, 0, none⟩ : Addr).add 3) w3 fun n15 =>
  quo .i64 n15 5 fun n16 =>
  call Try.prog 43 #[.pointer x0, .int .i64 n16] w3 fun v17 w7 =>
  asI .u64 v17 fun n18 =>
  stA Try.prog (⟨k2, 0, none⟩ : Addr) 2 #[.int .i64 1, .int .u64 n18] w7 fun w8 =>
  ldA (⟨k2, 0, none⟩ : Addr) 2 w8 fun g19 =>
  R (.agg g19) w8)))
@[irreducible] def tenonlaw11_Pair_link_ann : Ann := .none
theorem tenonlaw11_Pair_link_call {x0 : Option Addr} {x1 : Array Value} {R : Value → World → Prop} {w : World} (h : tenonlaw11_Pair_link x0 x1 R w) : call Try.prog 47 #[.pointer x0, .agg x1] w R :=
  call_of_fnW plain mixed Try.func47 tenonlaw11_Pair_link_ann (Eq.mp (by kernel_rfl : tenonlaw11_Pair_link x0 x1 R w = fnW Try.prog Try.f47 tenonlaw11_Pair_link_ann #[.pointer x0, .agg x1] R w) h)

def tenonref11_Heap_Put (x0 : Option Addr) (x1 : Int) (x2 : Int) (x3 : Array Value) (R : Value → World → Prop) (w : World) : Prop :=
  new x3 35 w fun k1 w1 =>
  call Try.prog 50 #[.pointer x0, .int .u64 x1] w1 fun v2 w2 =>
  asP v2 fun p3 =>
  br p3.isNone (
  R (.tuple #[.slice none 0 0, .slice none 0 0, .int .i64 2]) w2) (
  ∃ J4 : World → Prop, (
  br (decide ((x2 : Int) < 0)) (
  R (.tuple #[.slice none 0 0, .slice none 0 0, .int .i64 1]) w2) (
  nn p3 fun a5 =>
  ldS (a5.add 4) w2 fun p6 l6 c6 =>
  br (decide ((x2 : Int) ≥ (l6 : Int))) (
  R (.tuple #[.slice none 0 0, .slice none 0 0, .int .i64 1]) w2) (
  ldI .i64 ((⟨k1, 0, none⟩ : Addr).add 0) w2 fun n7 =>
  br (decide ((n7 : Int) < 0)) (
  R (.tuple #[.slice none 0 0, .slice none 0 0, .int .i64 1]) w2) (
  ldI .i64 ((⟨k1, 0, none⟩ : Addr).add 0) w2 fun n8 =>
  br (decide ((n8 : Int) > 2)) (
  R (.tuple #[.slice none 0 0, .slice none 0 0, .int .i64 1]) w2) (
  ldI .i64 ((⟨k1, 0, none⟩ : Addr).add 0) w2 fun n9 =>
  br ((n9 : Int) == 0) (
  ldI .u64 ((⟨k1, 0, none⟩ : Addr).add 1) w2 fun n10 =>
  br ((n10 : Int) != 0) (
  R (.tuple #[.slice none 0 0, .slice none 0 0, .int .i64 1]) w2) (
  J4  w2)) (
  J4  w2)))))) ∧
  ∀ (u11 : Nat → Value)  (w3 : World), J4  w3 →
  ∃ J12 : World → Prop, (
  ldI .i64 ((⟨k1, 0, none⟩ : Addr).add 0) w3 fun n13 =>
  br ((n13 : Int) == 1) (
  ldI .u64 ((⟨k1, 0, none⟩ : Addr).add 1) w3 fun n14 =>
  call Try.prog 45 #[.pointer x0, .int .u64 n14] w3 fun v15 w4 =>
  ∃ (n16 : Int) (n17 : Int),
  v15 = .tuple #[.int .u32 n16, .int .i64 n17] ∧
  br ((n17 : Int) != 0) (
  R (.tuple #[.slice none 0 0, .slice none 0 0, .int .i64 n17]) w4) (
  J12  w4)) (
  J12  w3)) ∧
  ∀ (u18 : Nat → Value)  (w5 : World), J12  w5 →
  nn p3 fun a19 =>
  ldS (a19.add 4) w5 fun p20 l20 c20 =>
  idx p20 l20 x2 2 fun a21 =>
  ldA a21 2 w5 fun g22 =>
  new #[.int .i64 0, .int .u64 0] 35 w5 fun k23 w6 =>
  stA Try.prog (⟨k23, 0, none⟩ : Addr) 2 g22 w6 fun w7 =>
  nn p3 fun a24 =>
  ldS (a24.add 4) w7.drew fun p25 l25 c25 =>
  ldA (⟨k1, 0, none⟩ : Addr) 2 w7.drew fun g26 =>
  idx p25 l25 x2 2 fun a27 =>
  stA Try.prog a27 2 g26 w7.drew fun w8 =>
  ldA (⟨k23, 0, none⟩ : Addr) 2 w8 fun g28 =>
  (g28 : Array Value).size = 2 ∧
  new g28 35 w8 fun k29 w9 =>
  call Try.prog 61 #[.pointer x0, .slice none 0 0, .slice (some (⟨k29, 0, none⟩ : Addr)) 1 1] w9 fun v30 w10 =>
  ∃ (p31 : Option Addr) (l31 c31 : Nat) (p32 : Option Addr) (l32 c32 : Nat),
  v30 = .tuple #[.slice p31 l31 c31, .slice p32 l32 c32] ∧
  R (.tuple #[.slice p31 l31 c31, .slice p32 l32 c32, .int .i64 0]) w10)
@[irreducible] def tenonref11_Heap_Put_ann : Ann := .seq .none (.seq .none (.seq .none (.meet [] .none (.meet [] .none (.seq .none (.seq (.draw [[], [0], [0, 1], [0, 1, 2], [], [], [0, 1, 2, 3, 4, 5], [0, 1, 2, 3, 4, 5, 6]] (ol [0, 1, 2, 3, 4, 5, 6, 7] .nil)) .none))))))
theorem tenonref11_Heap_Put_call {x0 : Option Addr} {x1 : Int} {x2 : Int} {x3 : Array Value} {R : Value → World → Prop} {w : World} (h : tenonref11_Heap_Put x0 x1 x2 x3 R w) : call Try.prog 48 #[.pointer x0, .int .u64 x1, .int .i64 x2, .agg x3] w R :=
  call_of_fnW plain mixed Try.func48 tenonref11_Heap_Put_ann (Eq.mp (by kernel_rfl : tenonref11_Heap_Put x0 x1 x2 x3 R w = fnW Try.prog Try.f48 tenonref11_Heap_Put_ann #[.pointer x0, .int .u64 x1, .int .i64 x2, .agg x3] R w) h)

def tenonref11_Heap_Remove (x0 : Option Addr) (x1 : Option Addr) (y1 z1 : Nat) (R : Value → World → Prop) (w : World) : Prop :=
  ∃ I1 : Int → World → Nat → Prop, (∃ m2, I1 0 w m2) ∧
  ∀ (u3 : Nat → Value) (n4 : Int) (w1 : World) (m5 : Nat), I1 n4 w1 m5 →
  br (decide ((n4 : Int) < (y1 : Int))) (
  idx x1 y1 n4 1 fun a6 =>
  ldI .u64 a6 w1 fun n7 =>
  call Try.prog 50 #[.pointer x0, .int .u64 n7] w1 fun v8 w2 =>
  asP v8 fun p9 =>
  br p9.isNone (
  R (.tuple #[.slice none 0 0, .slice none 0 0, .int .i64 2]) w2) (
  arith .i64 (n4 + 1) fun n10 =>
  ∃ m11, m11 < m5 ∧ I1 n10 w2 m11)) (
  ∃ I12 : Int → World → Nat → Prop, (∃ m13, I12 0 w1 m13) ∧
  ∀ (u14 : Nat → Value) (n15 : Int) (w3 : World) (m16 : Nat), I12 n15 w3 m16 →
  br (decide ((n15 : Int) < (y1 : Int))) (
  ∃ I17 : Int → World → Nat → Prop, (∃ m18, I17 0 w3 m18) ∧
  ∀ (u19 : Nat → Value) (n20 : Int) (w4 : World) (m21 : Nat), I17 n20 w4 m21 →
  br (decide ((n20 : Int) < n15)) (
  idx x1 y1 n20 1 fun a22 =>
  ldI .u64 a22 w4.drew fun n23 =>
  idx x1 y1 n15 1 fun a24 =>
  ldI .u64 a24 w4.drew fun n25 =>
  br ((n23 : Int) == n25) (
  R (.tuple #[.slice none 0 0, .slice none 0 0, .int .i64 1]) w4.drew) (
  arith .i64 (n20 + 1) fun n26 =>
  ∃ m27, m27 < m21 ∧ I17 n26 w4.drew m27)) (
  idx x1 y1 n15 1 fun a28 =>
  ldI .u64 a28 w4 fun n29 =>
  call Try.prog 50 #[.pointer x0, .int .u64 n29] w4 fun v30 w5 =>
  asP v30 fun p31 =>
  nn p31 fun a32 =>
  ldI .u64 (a32.add 1) w5 fun n33 =>
  br ((n33 : Int) != 0) (
  R (.tuple #[.slice none 0 0, .slice none 0 0, .int .i64 1]) w5) (
  arith .i64 (n15 + 1) fun n34 =>
  ∃ m35, m35 < m16 ∧ I12 n34 w5 m35))) (
  ∃ I36 : Int → World → Nat → Prop, (∃ m37, I36 0 w3 m37) ∧
  ∀ (u38 : Nat → Value) (n39 : Int) (w6 : World) (m40 : Nat), I36 n39 w6 m40 →
  br (decide ((n39 : Int) < (y1 : Int))) (
  idx x1 y1 n39 1 fun a41 =>
  ldI .u64 a41 w6 fun n42 =>
  call Try.prog 50 #[.pointer x0, .int .u64 n42] w6 fun v43 w7 =>
  asP v43 fun p44 =>
  nn p44 fun a45 =>
  st (a45.add 2) (.int .u32 0) w7 fun w8 =>
  arith .i64 (n39 + 1) fun n46 =>
  ∃ m47, m47 < m40 ∧ I36 n46 w8 m47) (
  new #[] 29 w6 fun k48 w9 =>
  runsS Try.prog (Builtin.append_ #[28, 28] 28 #[.slice (some (⟨k48, 0, none⟩ : Addr)) 0 0, .slice x1 y1 z1]) w9 fun p49 l49 c49 w10 =>
  call Try.prog 61 #[.pointer x0, .slice p49 l49 c49, .slice none 0 0] w10 fun v50 w11 =>
  ∃ (p51 : Option Addr) (l51 c51 : Nat) (p52 : Option Addr) (l52 c52 : Nat),
  v50 = .tuple #[.slice p51 l51 c51, .slice p52 l52 c52] ∧
  R (.tuple #[.slice p51 l51 c51, .slice p52 l52 c52, .int .i64 0]) w11)))
@[irreducible] def tenonref11_Heap_Remove_ann : Ann := .seq .none (.seq (.seq .none (.one (.loop [(7, .int .i64)] .none))) (.seq (.seq .none (.one (.loop [(8, .int .i64)] (.seq .none (.seq (.one (.seq (.seq .none (.one (.loop [(9, .int .i64)] (.seq .none (.seq (.one (.seq (.draw [[], [], [0, 1], [0, 1, 2], [], [], [4, 5], [4, 5, 6], [0, 1, 2, 3, 4, 5, 6, 7]] (ol [0, 1, 2, 3, 4, 5, 6, 7, 8] .nil)) .none)) .none))))) .none)) .none))))) (.seq (.seq .none (.one (.loop [(10, .int .i64)] .none))) .none)))
theorem tenonref11_Heap_Remove_call {x0 : Option Addr} {x1 : Option Addr} {y1 z1 : Nat} {R : Value → World → Prop} {w : World} (h : tenonref11_Heap_Remove x0 x1 y1 z1 R w) : call Try.prog 49 #[.pointer x0, .slice x1 y1 z1] w R :=
  call_of_fnW plain mixed Try.func49 tenonref11_Heap_Remove_ann (Eq.mp (by kernel_rfl : tenonref11_Heap_Remove x0 x1 y1 z1 R w = fnW Try.prog Try.f49 tenonref11_Heap_Remove_ann #[.pointer x0, .slice x1 y1 z1] R w) h)

def tenonref11_Heap_Find (x0 : Option Addr) (x1 : Int) (R : Value → World → Prop) (w : World) : Prop :=
  ∃ I1 : Int → World → Nat → Prop, (∃ m2, I1 0 w m2) ∧
  ∀ (u3 : Nat → Value) (n4 : Int) (w1 : World) (m5 : Nat), I1 n4 w1 m5 →
  nn x0 fun a6 =>
  ldS (a6.add 2) w1 fun p7 l7 c7 =>
  br (decide ((n4 : Int) < (l7 : Int))) (
  nn x0 fun a8 =>
  ldS (a8.add 2) w1 fun p9 l9 c9 =>
  idx p9 l9 n4 1 fun a10 =>
  ldP a10 w1 fun p11 =>
  nn p11 fun a12 =>
  ldI .u64 (a12.add 0) w1 fun n13 =>
  br ((n13 : Int) == x1) (
  nn x0 fun a14 =>
  ldS (a14.add 2) w1 fun p15 l15 c15 =>
  idx p15 l15 n4 1 fun a16 =>
  ldP a16 w1 fun p17 =>
  R (.pointer p17) w1) (
  arith .i64 (n4 + 1) fun n18 =>
  ∃ m19, m19 < m5 ∧ I1 n18 w1 m19)) (
  R (.pointer none) w1)
@[irreducible] def tenonref11_Heap_Find_ann : Ann := .seq .none (.seq (.seq .none (.one (.loop [(5, .int .i64)] .none))) .none)
theorem tenonref11_Heap_Find_call {x0 : Option Addr} {x1 : Int} {R : Value → World → Prop} {w : World} (h : tenonref11_Heap_Find x0 x1 R w) : call Try.prog 50 #[.pointer x0, .int .u64 x1] w R :=
  call_of_fnW plain mixed Try.func50 tenonref11_Heap_Find_ann (Eq.mp (by kernel_rfl : tenonref11_Heap_Find x0 x1 R w = fnW Try.prog Try.f50 tenonref11_Heap_Find_ann #[.pointer x0, .int .u64 x1] R w) h)

def tenonref11_Heap_Whole (x0 : Option Addr) (x1 : Int) (R : Value → World → Prop) (w : World) : Prop :=
  call Try.prog 50 #[.pointer x0, .int .u64 x1] w fun v1 w1 =>
  asP v1 fun p2 =>
  br p2.isNone (
  R (.pointer p2) w1) (
  nn p2 fun a3 =>
  ldI .u64 (a3.add 1) w1 fun n4 =>
  br ((n4 : Int) == 0) (
  R (.pointer p2) w1) (
  nn p2 fun a5 =>
  ldI .u64 (a5.add 1) w1 fun n6 =>
  call Try.prog 50 #[.pointer x0, .int .u64 n6] w1 fun v7 w2 =>
  asP v7 fun p8 =>
  R (.pointer p8) w2))
@[irreducible] def tenonref11_Heap_Whole_ann : Ann := .none
theorem tenonref11_Heap_Whole_call {x0 : Option Addr} {x1 : Int} {R : Value → World → Prop} {w : World} (h : tenonref11_Heap_Whole x0 x1 R w) : call Try.prog 51 #[.pointer x0, .int .u64 x1] w R :=
  call_of_fnW plain mixed Try.func51 tenonref11_Heap_Whole_ann (Eq.mp (by kernel_rfl : tenonref11_Heap_Whole x0 x1 R w = fnW Try.prog Try.f51 tenonref11_Heap_Whole_ann #[.pointer x0, .int .u64 x1] R w) h)

def heap_Heap_Links (x0 : Option Addr) (x1 : Int) (R : Value → World → Prop) (w : World) : Prop :=
  new #[.pointer x0] 23 w fun k1 w1 =>
  new #[.int .u64 x1] 29 w1 fun k2 w2 =>
  R (.func (.func 62) #[] #[.pointer (some (⟨k1, 0, none⟩ : Addr)), .pointer (some (⟨k2, 0, none⟩ : Addr))]) w2
@[irreducible] def heap_Heap_Links_ann : Ann := .none
theorem heap_Heap_Links_call {x0 : Option Addr} {x1 : Int} {R : Value → World → Prop} {w : World} (h : heap_Heap_Links x0 x1 R w) : call Try.prog 52 #[.pointer x0, .int .u64 x1] w R :=
  call_of_fnW plain mixed Try.func52 heap_Heap_Links_ann (Eq.mp (by kernel_rfl : heap_Heap_Links x0 x1 R w = fnW Try.prog Try.f52 heap_Heap_Links_ann #[.pointer x0, .int .u64 x1] R w) h)

def tenonref02_Handle (x0 : Int) (x1 : Int) (R : Value → World → Prop) (w : World) : Prop :=
  arith .u64 x1 fun n1 =>
  arith .u64 (n1 * 4294967296) fun n2 =>
  arith .u64 x0 fun n3 =>
  arith .u64 (n2 + n3) fun n4 =>
  arith .u64 (n4 + 1) fun n5 =>
  R (.int .u64 n5) w
@[irreducible] def tenonref02_Handle_ann : Ann := .none
theorem tenonref02_Handle_call {x0 : Int} {x1 : Int} {R : Value → World → Prop} {w : World} (h : tenonref02_Handle x0 x1 R w) : call Try.prog 53 #[.int .i64 x0, .int .u32 x1] w R :=
  call_of_fnW plain mixed Try.func53 tenonref02_Handle_ann (Eq.mp (by kernel_rfl : tenonref02_Handle x0 x1 R w = fnW Try.prog Try.f53 tenonref02_Handle_ann #[.int .i64 x0, .int .u32 x1] R w) h)

def slices_Clone (x0 : Option Addr) (y0 z0 : Nat) (R : Value → World → Prop) (w : World) : Prop :=
  br x0.isNone (
  R (.slice none 0 0) w) (
  new #[] 29 w fun k1 w1 =>
  runsS Try.prog (Builtin.append_ #[28, 28] 28 #[.slice (some (⟨k1, 0, none⟩ : Addr)) 0 0, .slice x0 y0 z0]) w1 fun p2 l2 c2 w2 =>
  R (.slice p2 l2 c2) w2)
@[irreducible] def slices_Clone_ann : Ann := .none
theorem slices_Clone_call {x0 : Option Addr} {y0 z0 : Nat} {R : Value → World → Prop} {w : World} (h : slices_Clone x0 y0 z0 R w) : call Try.prog 54 #[.slice x0 y0 z0] w R :=
  call_of_fnW plain mixed Try.func54 slices_Clone_ann (Eq.mp (by kernel_rfl : slices_Clone x0 y0 z0 R w = fnW Try.prog Try.f54 slices_Clone_ann #[.slice x0 y0 z0] R w) h)

def arena_Arena_Get (x0 : Option Addr) (x1 : Int) (R : Value → World → Prop) (w : World) : Prop :=
  call Try.prog 64 #[.pointer x0, .int .u64 x1] w fun v1 w1 =>
  ∃ (p2 : Option Addr) (n3 : Int),
  v1 = .tuple #[.pointer p2, .int .i64 n3] ∧
  br p2.isNone (
  R (.tuple #[.pointer none, .int .i64 2]) w1) (
  nn p2 fun a4 =>
  ldP (a4.add 0) w1 fun p5 =>
  R (.tuple #[.pointer p5, .int .i64 0]) w1)
@[irreducible] def arena_Arena_Get_ann : Ann := .none
theorem arena_Arena_Get_call {x0 : Option Addr} {x1 : Int} {R : Value → World → Prop} {w : World} (h : arena_Arena_Get x0 x1 R w) : call Try.prog 55 #[.pointer x0, .int .u64 x1] w R :=
  call_of_fnW plain mixed Try.func55 arena_Arena_Get_ann (Eq.mp (by kernel_rfl : arena_Arena_Get x0 x1 R w = fnW Try.prog Try.f55 arena_Arena_Get_ann #[.pointer x0, .int .u64 x1] R w) h)

def arena_handle (x0 : Int) (x1 : Int) (R : Value → World → Prop) (w : World) : Prop :=
  arith .u64 x1 fun n1 =>
  shl .u64 n1 32 fun n2 =>
  arith .i64 (x0 + 1) fun n3 =>
  arith .u64 n3 fun n4 =>
  R (.int .u64 (bitw .or .u64 n2 n4)) w
@[irreducible] def arena_handle_ann : Ann := .none
theorem arena_handle_call {x0 : Int} {x1 : Int} {R : Value → World → Prop} {w : World} (h : arena_handle x0 x1 R w) : call Try.prog 56 #[.int .i64 x0, .int .u32 x1] w R :=
  call_of_fnW plain mixed Try.func56 arena_handle_ann (Eq.mp (by kernel_rfl : arena_handle x0 x1 R w = fnW Try.prog Try.f56 arena_handle_ann #[.int .i64 x0, .int .u32 x1] R w) h)

def arena_Arena_Drop (x0 : Option Addr) (x1 : Int) (R : Value → World → Prop) (w : World) : Prop :=
  call Try.prog 64 #[.pointer x0, .int .u64 x1] w fun v1 w1 =>
  ∃ (p2 : Option Addr) (n3 : Int),
  v1 = .tuple #[.pointer p2, .int .i64 n3] ∧
  br p2.isNone (
  R (.tuple #[.pointer none, .int .i64 2]) w1) (
  nn p2 fun a4 =>
  ldP (a4.add 0) w1 fun p5 =>
  nn p2 fun a6 =>
  st (a6.add 0) (.pointer none) w1 fun w2 =>
  nn p2 fun a7 =>
  st (a7.add 2) (.bool false) w2 fun w3 =>
  nn x0 fun a8 =>
  ldI .i64 (a8.add 4) w3 fun n9 =>
  arith .i64 (n9 - 1) fun n10 =>
  nn x0 fun a11 =>
  st (a11.add 4) (.int .i64 n10) w3 fun w4 =>
  nn p2 fun a12 =>
  ldI .u32 (a12.add 1) w4 fun n13 =>
  br (decide ((n13 : Int) < 4294967295)) (
  nn p2 fun a14 =>
  ldI .u32 (a14.add 1) w4 fun n15 =>
  arith .u32 (n15 + 1) fun n16 =>
  nn p2 fun a17 =>
  st (a17.add 1) (.int .u32 n16) w4 fun w5 =>
  nn x0 fun a18 =>
  ldS (a18.add 3) w5 fun p19 l19 c19 =>
  new #[.int .i64 n3] 3 w5 fun k20 w6 =>
  runsS Try.prog (Builtin.append_ #[43, 43] 43 #[.slice p19 l19 c19, .slice (some (⟨k20, 0, none⟩ : Addr)) 1 1]) w6 fun p21 l21 c21 w7 =>
  nn x0 fun a22 =>
  st (a22.add 3) (.slice p21 l21 c21) w7 fun w8 =>
  R (.tuple #[.pointer p5, .int .i64 0]) w8) (
  R (.tuple #[.pointer p5, .int .i64 0]) w4))
@[irreducible] def arena_Arena_Drop_ann : Ann := .none
theorem arena_Arena_Drop_call {x0 : Option Addr} {x1 : Int} {R : Value → World → Prop} {w : World} (h : arena_Arena_Drop x0 x1 R w) : call Try.prog 57 #[.pointer x0, .int .u64 x1] w R :=
  call_of_fnW plain mixed Try.func57 arena_Arena_Drop_ann (Eq.mp (by kernel_rfl : arena_Arena_Drop x0 x1 R w = fnW Try.prog Try.f57 arena_Arena_Drop_ann #[.pointer x0, .int .u64 x1] R w) h)

def heap_Heap_All_1 (x0 : Fn) (y0 z0 : Array Value) (x1 : Addr) (R : Value → World → Prop) (w : World) : Prop :=
  new #[.func x0 y0 z0] 138 w fun k1 w1 =>
  ldP x1 w1 fun p2 =>
  br p2.isNone (
  R (.tuple #[]) w1) (
  ldP x1 w1 fun p3 =>
  nn p3 fun a4 =>
  ldP (a4.add 1) w1 fun p5 =>
  call Try.prog 59 #[.pointer p5] w1 fun v6 w2 =>
  asF v6 fun f7 q7 t7 =>
  rangeW Try.prog (.func f7 q7 t7) 2 (fun xs8 N9 J10 T11 w3 => ∃ (n12 : Int) (p13 : Option Addr), xs8 = #[.int .u64 n12, .pointer p13] ∧
  T11 w3 fun w4 =>
  ldF (⟨k1, 0, none⟩ : Addr) w4 fun f14 q14 t14 =>
  callV Try.prog f14 q14 t14 #[.int .u64 n12] w4 fun v15 w5 =>
  asB v15 fun b16 =>
  br (!b16) (
  J10 .ret w5) (
  N9 w5)) (fun D17 w6 =>
  shutD D17 w6 fun w7 =>
  R (.tuple #[]) w7) (fun D18 c19 w8 => jmp c19 (
  shutD D18 w8 fun w9 =>
  R (.tuple #[]) w9) []) w2)
@[irreducible] def heap_Heap_All_1_ann : Ann := .seq .none (.seq .none (.seq .none (.one (.range [.int .u64, .ptr] .none .none))))
theorem heap_Heap_All_1_call {x0 : Fn} {y0 z0 : Array Value} {x1 : Addr} {R : Value → World → Prop} {w : World} (h : heap_Heap_All_1 x0 y0 z0 x1 R w) : call Try.prog 58 #[.func x0 y0 z0, .pointer (some x1)] w R :=
  call_of_fnW plain mixed Try.func58 heap_Heap_All_1_ann (Eq.mp (by kernel_rfl : heap_Heap_All_1 x0 y0 z0 x1 R w = fnW Try.prog Try.f58 heap_Heap_All_1_ann #[.func x0 y0 z0, .pointer (some x1)] R w) h)

def arena_Arena_All (x0 : Option Addr) (R : Value → World → Prop) (w : World) : Prop :=
  new #[.pointer x0] 81 w fun k1 w1 =>
  R (.func (.func 65) #[] #[.pointer (some (⟨k1, 0, none⟩ : Addr))]) w1
@[irreducible] def arena_Arena_All_ann : Ann := .none
theorem arena_Arena_All_call {x0 : Option Addr} {R : Value → World → Prop} {w : World} (h : arena_Arena_All x0 R w) : call Try.prog 59 #[.pointer x0] w R :=
  call_of_fnW plain mixed Try.func59 arena_Arena_All_ann (Eq.mp (by kernel_rfl : arena_Arena_All x0 R w = fnW Try.prog Try.f59 arena_Arena_All_ann #[.pointer x0] R w) h)

def tenonref02_Arena_Put (x0 : Option Addr) (x1 : Int) (R : Value → World → Prop) (w : World) : Prop :=
  nn x0 fun a1 =>
  ldS (a1.add 3) w fun p2 l2 c2 =>
  nn x0 fun a3 =>
  ldS (a3.add 2) w fun p4 l4 c4 =>
  br (decide ((l2 : Int) > 0)) (
  nn x0 fun a5 =>
  ldS (a5.add 3) w fun p6 l6 c6 =>
  arith .i64 ((l2 : Int) - 1) fun n7 =>
  idx p6 l6 n7 1 fun a8 =>
  ldI .i64 a8 w fun n9 =>
  nn x0 fun a10 =>
  ldS (a10.add 3) w fun p11 l11 c11 =>
  arith .i64 ((l2 : Int) - 1) fun n12 =>
  slc p11 c11 1 0 n12 fun p13 l13 c13 =>
  nn x0 fun a14 =>
  st (a14.add 3) (.slice p13 l13 c13) w fun w1 =>
  nn x0 fun a15 =>
  ldS (a15.add 2) w1 fun p16 l16 c16 =>
  idx p16 l16 n9 3 fun a17 =>
  st (a17.add 0) (.int .i64 x1) w1 fun w2 =>
  nn x0 fun a18 =>
  ldS (a18.add 2) w2 fun p19 l19 c19 =>
  idx p19 l19 n9 3 fun a20 =>
  st (a20.add 2) (.int .i64 1) w2 fun w3 =>
  nn x0 fun a21 =>
  ldS (a21.add 2) w3 fun p22 l22 c22 =>
  idx p22 l22 n9 3 fun a23 =>
  ldI .u32 (a23.add 1) w3 fun n24 =>
  call Try.prog 53 #[.int .i64 n9, .int .u32 n24] w3 fun v25 w4 =>
  asI .u64 v25 fun n26 =>
  R (.int .u64 n26) w4) (
  nn x0 fun a27 =>
  ldI .i64 (a27.add 0) w fun n28 =>
  br (decide ((l4 : Int) ≥ n28)) (
  R (.int .u64 0) w) (
  nn x0 fun a29 =>
  ldS (a29.add 2) w.drew fun p30 l30 c30 =>
  nn x0 fun a31 =>
  ldI .u32 (a31.add 1) w.drew fun n32 =>
  (#[.int .i64 x1, .int .u32 n32, .int .i64 1] : Array Value).size = 3 ∧
  new #[.int .i64 x1, .int .u32 n32, .int .i64 1] 125 w.drew fun k33 w5 =>
  runsS Try.prog (Builtin.append_ #[121, 121] 121 #[.slice p30 l30 c30, .slice (some (⟨k33, 0, none⟩ : Addr)) 1 1]) w5 fun p34 l34 c34 w6 =>
  nn x0 fun a35 =>
  st (a35.add 2) (.slice p34 l34 c34) w6 fun w7 =>
  nn x0 fun a36 =>
  ldI .u32 (a36.add 1) w7 fun n37 =>
  call Try.prog 53 #[.int .i64 ((l4 : Int)), .int .u32 n37] w7 fun v38 w8 =>
  asI .u64 v38 fun n39 =>
  R (.int .u64 n39) w8))
@[irreducible] def tenonref02_Arena_Put_ann : Ann := .seq .none (.seq .none (.seq .none (.seq .none (.seq .none (.seq (.draw [[], [], [1], [1, 2], [1, 2, 3], [], [], [6], [6, 7], [6, 7, 8], [5, 6, 7, 8, 9], [5, 6, 7, 8, 9, 10], [1, 2, 3, 4, 5, 6, 7, 8, 9, 10, 11], [0, 1, 2, 3, 4, 5, 6, 7, 8, 9, 10, 11, 12], [0, 1, 2, 3, 4, 5, 6, 7, 8, 9, 10, 11, 12, 13], [0, 1, 2, 3, 4, 5, 6, 7, 8, 9, 10, 11, 12, 13, 14]] (ol [0, 1, 2, 3, 4, 5, 6, 7, 8, 9, 10, 11, 12, 13, 14, 15] .nil)) .none)))))
theorem tenonref02_Arena_Put_call {x0 : Option Addr} {x1 : Int} {R : Value → World → Prop} {w : World} (h : tenonref02_Arena_Put x0 x1 R w) : call Try.prog 60 #[.pointer x0, .int .i64 x1] w R :=
  call_of_fnW plain mixed Try.func60 tenonref02_Arena_Put_ann (Eq.mp (by kernel_rfl : tenonref02_Arena_Put x0 x1 R w = fnW Try.prog Try.f60 tenonref02_Arena_Put_ann #[.pointer x0, .int .i64 x1] R w) h)

def tenonref11_Heap_Go (x0 : Option Addr) (x1 : Option Addr) (y1 z1 : Nat) (x2 : Option Addr) (y2 z2 : Nat) (R : Value → World → Prop) (w : World) : Prop :=
  ∃ I1 : Option Addr → Nat → Nat → Option Addr → Nat → Nat → Option Addr → Nat → Nat → Option Addr → Nat → Nat → Int → World → Nat → Prop, (∃ m2, I1 x1 y1 z1 x2 y2 z2 none 0 0 none 0 0 (-1) w m2) ∧
  ∀ (u3 : Nat → Value) (p4 : Option Addr) (l4 c4 : Nat) (p5 : Option Addr) (l5 c5 : Nat) (p6 : Option Addr) (l6 c6 : Nat) (p7 : Option Addr) (l7 c7 : Nat) (n8 : Int) (w1 : World) (m9 : Nat), I1 p4 l4 c4 p5 l5 c5 p6 l6 c6 p7 l7 c7 n8 w1 m9 →
  br (decide ((n8 : Int) < (l4 : Int))) (
  ∃ J10 : Option Addr → Nat → Nat → Option Addr → Nat → Nat → World → Prop, (
  br (decide ((n8 : Int) ≥ 0)) (
  idx p4 l4 n8 1 fun a11 =>
  ldI .u64 a11 w1 fun n12 =>
  call Try.prog 66 #[.pointer x0, .int .u64 n12] w1 fun v13 w2 =>
  asP v13 fun p14 =>
  nn p14 fun a15 =>
  ldI .u64 (a15.add 0) w2 fun n16 =>
  new #[.int .u64 n16] 29 w2 fun k17 w3 =>
  runsS Try.prog (Builtin.append_ #[28, 28] 28 #[.slice p6 l6 c6, .slice (some (⟨k17, 0, none⟩ : Addr)) 1 1]) w3 fun p18 l18 c18 w4 =>
  nn p14 fun a19 =>
  ldS (a19.add 4) w4 fun p20 l20 c20 =>
  runsS Try.prog (Builtin.append_ #[78, 78] 78 #[.slice none 0 0, .slice p20 l20 c20]) w4 fun p21 l21 c21 w5 =>
  ∃ I22 : Option Addr → Nat → Nat → Option Addr → Nat → Nat → Int → World → Nat → Prop, (∃ m23, I22 p21 l21 c21 p18 l18 c18 0 w5 m23) ∧
  ∀ (u24 : Nat → Value) (p25 : Option Addr) (l25 c25 : Nat) (p26 : Option Addr) (l26 c26 : Nat) (n27 : Int) (w6 : World) (m28 : Nat), I22 p25 l25 c25 p26 l26 c26 n27 w6 m28 →
  nn p14 fun a29 =>
  ldS (a29.add 5) w6 fun p30 l30 c30 =>
  br (decide ((n27 : Int) < (l30 : Int))) (
  nn p14 fun a31 =>
  ldS (a31.add 5) w6 fun p32 l32 c32 =>
  idx p32 l32 n27 1 fun a33 =>
  ldI .u64 a33 w6 fun n34 =>
  call Try.prog 66 #[.pointer x0, .int .u64 n34] w6 fun v35 w7 =>
  asP v35 fun p36 =>
  nn p36 fun a37 =>
  ldI .u64 (a37.add 0) w7 fun n38 =>
  new #[.int .u64 n38] 29 w7 fun k39 w8 =>
  runsS Try.prog (Builtin.append_ #[28, 28] 28 #[.slice p26 l26 c26, .slice (some (⟨k39, 0, none⟩ : Addr)) 1 1]) w8 fun p40 l40 c40 w9 =>
  nn p36 fun a41 =>
  ldS (a41.add 4) w9 fun p42 l42 c42 =>
  runsS Try.prog (Builtin.append_ #[78, 78] 78 #[.slice p25 l25 c25, .slice p42 l42 c42]) w9 fun p43 l43 c43 w10 =>
  arith .i64 (n27 + 1) fun n44 =>
  ∃ m45, m45 < m28 ∧ I22 p43 l43 c43 p40 l40 c40 n44 w10 m45) (
  J10 p25 l25 c25 p26 l26 c26 w6)) (
  J10 p5 l5 c5 p6 l6 c6 w1)) ∧
  ∀ (u46 : Nat → Value) (p47 : Option Addr) (l47 c47 : Nat) (p48 : Option Addr) (l48 c48 : Nat) (w11 : World), J10 p47 l47 c47 p48 l48 c48 w11 →
  ∃ I49 : Option Addr → Nat → Nat → Option Addr → Nat → Nat → Int → World → Nat → Prop, (∃ m50, I49 p4 l4 c4 p7 l7 c7 0 w11 m50) ∧
  ∀ (u51 : Nat → Value) (p52 : Option Addr) (l52 c52 : Nat) (p53 : Option Addr) (l53 c53 : Nat) (n54 : Int) (w12 : World) (m55 : Nat), I49 p52 l52 c52 p53 l53 c53 n54 w12 m55 →
  br (decide ((n54 : Int) < (l47 : Int))) (
  ∃ J56 : Option Addr → Nat → Nat → World → Prop, (
  idx p47 l47 n54 2 fun a57 =>
  ldI .i64 (a57.add 0) w12 fun n58 =>
  br ((n58 : Int) == 2) (
  idx p47 l47 n54 2 fun a59 =>
  ldI .u64 (a59.add 1) w12 fun n60 =>
  new #[.int .u64 n60] 29 w12 fun k61 w13 =>
  runsS Try.prog (Builtin.append_ #[28, 28] 28 #[.slice p53 l53 c53, .slice (some (⟨k61, 0, none⟩ : Addr)) 1 1]) w13 fun p62 l62 c62 w14 =>
  J56 p62 l62 c62 w14) (
  J56 p53 l53 c53 w12)) ∧
  ∀ (u63 : Nat → Value) (p64 : Option Addr) (l64 c64 : Nat) (w15 : World), J56 p64 l64 c64 w15 →
  idx p47 l47 n54 2 fun a65 =>
  ldI .i64 (a65.add 0) w15 fun n66 =>
  br ((n66 : Int) != 1) (
  arith .i64 (n54 + 1) fun n67 =>
  ∃ m68, m68 < m55 ∧ I49 p52 l52 c52 p64 l64 c64 n67 w15 m68) (
  idx p47 l47 n54 2 fun a69 =>
  ldI .u64 (a69.add 1) w15 fun n70 =>
  call Try.prog 51 #[.pointer x0, .int .u64 n70] w15 fun v71 w16 =>
  asP v71 fun p72 =>
  br p72.isNone (
  arith .i64 (n54 + 1) fun n73 =>
  ∃ m74, m74 < m55 ∧ I49 p52 l52 c52 p64 l64 c64 n73 w16 m74) (
  nn p72 fun a75 =>
  ldI .u32 (a75.add 2) w16 fun n76 =>
  br ((n76 : Int) == 0) (
  arith .i64 (n54 + 1) fun n77 =>
  ∃ m78, m78 < m55 ∧ I49 p52 l52 c52 p64 l64 c64 n77 w16 m78) (
  nn p72 fun a79 =>
  ldI .u32 (a79.add 2) w16 fun n80 =>
  arith .u32 (n80 - 1) fun n81 =>
  nn p72 fun a82 =>
  st (a82.add 2) (.int .u32 n81) w16 fun w17 =>
  nn p72 fun a83 =>
  ldI .u32 (a83.add 2) w17 fun n84 =>
  br ((n84 : Int) == 0) (
  nn p72 fun a85 =>
  ldI .u64 (a85.add 0) w17 fun n86 =>
  new #[.int .u64 n86] 29 w17 fun k87 w18 =>
  runsS Try.prog (Builtin.append_ #[28, 28] 28 #[.slice p52 l52 c52, .slice (some (⟨k87, 0, none⟩ : Addr)) 1 1]) w18 fun p88 l88 c88 w19 =>
  arith .i64 (n54 + 1) fun n89 =>
  ∃ m90, m90 < m55 ∧ I49 p88 l88 c88 p64 l64 c64 n89 w19 m90) (
  arith .i64 (n54 + 1) fun n91 =>
  ∃ m92, m92 < m55 ∧ I49 p52 l52 c52 p64 l64 c64 n91 w17 m92))))) (
  arith .i64 (n8 + 1) fun n93 =>
  ∃ m94, m94 < m9 ∧ I1 p52 l52 c52 p47 l47 c47 p48 l48 c48 p53 l53 c53 n93 w12 m94)) (
  R (.tuple #[.slice p6 l6 c6, .slice p7 l7 c7]) w1)
@[irreducible] def tenonref11_Heap_Go_ann : Ann := .seq .none (.seq .none (.seq (.seq .none (.one (.loop [(1, .slice), (2, .slice), (8, .slice), (9, .slice), (10, .int .i64)] (.seq .none (.seq (.one (.meet [(2, .slice), (8, .slice)] (.seq .none (.seq (.seq .none (.seq .none (.seq .none (.seq .none (.seq .none (.one (.loop [(2, .slice), (8, .slice), (12, .int .i64)] .none))))))) .none)) (.seq .none (.one (.loop [(1, .slice), (9, .slice), (14, .int .i64)] (.seq .none (.seq (.one (.meet [(9, .slice)] .none .none)) .none))))))) .none))))) .none))
theorem tenonref11_Heap_Go_call {x0 : Option Addr} {x1 : Option Addr} {y1 z1 : Nat} {x2 : Option Addr} {y2 z2 : Nat} {R : Value → World → Prop} {w : World} (h : tenonref11_Heap_Go x0 x1 y1 z1 x2 y2 z2 R w) : call Try.prog 61 #[.pointer x0, .slice x1 y1 z1, .slice x2 y2 z2] w R :=
  call_of_fnW plain mixed Try.func61 tenonref11_Heap_Go_ann (Eq.mp (by kernel_rfl : tenonref11_Heap_Go x0 x1 y1 z1 x2 y2 z2 R w = fnW Try.prog Try.f61 tenonref11_Heap_Go_ann #[.pointer x0, .slice x1 y1 z1, .slice x2 y2 z2] R w) h)

def heap_Heap_Links_1 (x0 : Fn) (y0 z0 : Array Value) (x1 : Addr) (x2 : Addr) (R : Value → World → Prop) (w : World) : Prop :=
  ldP x1 w fun p1 =>
  ldI .u64 x2 w fun n2 =>
  call Try.prog 35 #[.pointer p1, .int .u64 n2] w fun v3 w1 =>
  ∃ (p4 : Option Addr) (n5 : Int),
  v3 = .tuple #[.pointer p4, .int .i64 n5] ∧
  br ((n5 : Int) != 0) (
  R (.tuple #[]) w1) (
  nn p4 fun a6 =>
  ldS (a6.add 3) w1 fun p7 l7 c7 =>
  call Try.prog 63 #[.slice p7 l7 c7] w1 fun v8 w2 =>
  asS v8 fun p9 l9 c9 =>
  ∃ I10 : Int → World → Nat → Prop, (∃ m11, I10 0 w2 m11) ∧
  ∀ (u12 : Nat → Value) (n13 : Int) (w3 : World) (m14 : Nat), I10 n13 w3 m14 →
  br (decide ((n13 : Int) < (l9 : Int))) (
  idx p9 l9 n13 2 fun a15 =>
  ldA a15 2 w3 fun g16 =>
  new #[.int .i64 0, .int .u64 0] 35 w3 fun k17 w4 =>
  stA Try.prog (⟨k17, 0, none⟩ : Addr) 2 g16 w4 fun w5 =>
  ldA (⟨k17, 0, none⟩ : Addr) 2 w5 fun g18 =>
  callV Try.prog x0 y0 z0 #[.int .i64 n13, .agg g18] w5 fun v19 w6 =>
  asB v19 fun b20 =>
  br (!b20) (
  R (.tuple #[]) w6) (
  arith .i64 (n13 + 1) fun n21 =>
  ∃ m22, m22 < m14 ∧ I10 n21 w6 m22)) (
  R (.tuple #[]) w3))
@[irreducible] def heap_Heap_Links_1_ann : Ann := .seq .none (.seq .none (.seq .none (.one (.loop [(22, .int .i64)] .none))))
theorem heap_Heap_Links_1_call {x0 : Fn} {y0 z0 : Array Value} {x1 : Addr} {x2 : Addr} {R : Value → World → Prop} {w : World} (h : heap_Heap_Links_1 x0 y0 z0 x1 x2 R w) : call Try.prog 62 #[.func x0 y0 z0, .pointer (some x1), .pointer (some x2)] w R :=
  call_of_fnW plain mixed Try.func62 heap_Heap_Links_1_ann (Eq.mp (by kernel_rfl : heap_Heap_Links_1 x0 y0 z0 x1 x2 R w = fnW Try.prog Try.f62 heap_Heap_Links_1_ann #[.func x0 y0 z0, .pointer (some x1), .pointer (some x2)] R w) h)

def slices_Clone_1 (x0 : Option Addr) (y0 z0 : Nat) (R : Value → World → Prop) (w : World) : Prop :=
  br x0.isNone (
  R (.slice none 0 0) w) (
  new #[] 35 w fun k1 w1 =>
  runsS Try.prog (Builtin.append_ #[78, 78] 78 #[.slice (some (⟨k1, 0, none⟩ : Addr)) 0 0, .slice x0 y0 z0]) w1 fun p2 l2 c2 w2 =>
  R (.slice p2 l2 c2) w2)
@[irreducible] def slices_Clone_1_ann : Ann := .none
theorem slices_Clone_1_call {x0 : Option Addr} {y0 z0 : Nat} {R : Value → World → Prop} {w : World} (h : slices_Clone_1 x0 y0 z0 R w) : call Try.prog 63 #[.slice x0 y0 z0] w R :=
  call_of_fnW plain mixed Try.func63 slices_Clone_1_ann (Eq.mp (by kernel_rfl : slices_Clone_1 x0 y0 z0 R w = fnW Try.prog Try.f63 slices_Clone_1_ann #[.slice x0 y0 z0] R w) h)

def arena_Arena_find (x0 : Option Addr) (x1 : Int) (R : Value → World → Prop) (w : World) : Prop :=
  call Try.prog 67 #[.int .u64 x1] w fun v1 w1 =>
  ∃ (n2 : Int) (n3 : Int),
  v1 = .tuple #[.int .i64 n2, .int .u32 n3] ∧
  br x0.isNone (
  R (.tuple #[.pointer none, .int .i64 0]) w1) (
  br (decide ((n2 : Int) < 0)) (
  R (.tuple #[.pointer none, .int .i64 0]) w1) (
  nn x0 fun a4 =>
  ldS (a4.add 2) w1 fun p5 l5 c5 =>
  br (decide ((n2 : Int) ≥ (l5 : Int))) (
  R (.tuple #[.pointer none, .int .i64 0]) w1) (
  nn x0 fun a6 =>
  ldS (a6.add 2) w1 fun p7 l7 c7 =>
  idx p7 l7 n2 3 fun a8 =>
  ldB (a8.add 2) w1 fun b9 =>
  br (!b9) (
  R (.tuple #[.pointer none, .int .i64 0]) w1) (
  ldI .u32 (a8.add 1) w1 fun n10 =>
  br ((n10 : Int) != n3) (
  R (.tuple #[.pointer none, .int .i64 0]) w1) (
  R (.tuple #[.pointer (some a8), .int .i64 n2]) w1)))))
@[irreducible] def arena_Arena_find_ann : Ann := .none
theorem arena_Arena_find_call {x0 : Option Addr} {x1 : Int} {R : Value → World → Prop} {w : World} (h : arena_Arena_find x0 x1 R w) : call Try.prog 64 #[.pointer x0, .int .u64 x1] w R :=
  call_of_fnW plain mixed Try.func64 arena_Arena_find_ann (Eq.mp (by kernel_rfl : arena_Arena_find x0 x1 R w = fnW Try.prog Try.f64 arena_Arena_find_ann #[.pointer x0, .int .u64 x1] R w) h)

def arena_Arena_All_1 (x0 : Fn) (y0 z0 : Array Value) (x1 : Addr) (R : Value → World → Prop) (w : World) : Prop :=
  ldP x1 w fun p1 =>
  br p1.isNone (
  R (.tuple #[]) w) (
  new #[] 135 w fun k2 w1 =>
  ldP x1 w1 fun p3 =>
  nn p3 fun a4 =>
  ldS (a4.add 2) w1 fun p5 l5 c5 =>
  runsS Try.prog (Builtin.append_ #[131, 131] 131 #[.slice (some (⟨k2, 0, none⟩ : Addr)) 0 0, .slice p5 l5 c5]) w1 fun p6 l6 c6 w2 =>
  ∃ I7 : Int → World → Nat → Prop, (∃ m8, I7 0 w2 m8) ∧
  ∀ (u9 : Nat → Value) (n10 : Int) (w3 : World) (m11 : Nat), I7 n10 w3 m11 →
  br (decide ((n10 : Int) < (l6 : Int))) (
  idx p6 l6 n10 3 fun a12 =>
  ldA a12 3 w3 fun g13 =>
  new #[.pointer none, .int .u32 0, .bool false] 135 w3 fun k14 w4 =>
  stA Try.prog (⟨k14, 0, none⟩ : Addr) 3 g13 w4 fun w5 =>
  ldB ((⟨k14, 0, none⟩ : Addr).add 2) w5.drew fun b15 =>
  br b15 (
  ldI .u32 ((⟨k14, 0, none⟩ : Addr).add 1) w5.drew fun n16 =>
  ldP ((⟨k14, 0, none⟩ : Addr).add 0) w5.drew fun p17 =>
  call Try.prog 56 #[.int .i64 n10, .int .u32 n16] w5.drew fun v18 w6 =>
  asI .u64 v18 fun n19 =>
  w6.cell? ((⟨k14, 0, none⟩ : Addr).add 0) = some (.pointer p17) ∧
  callV Try.prog x0 y0 z0 #[.int .u64 n19, .pointer p17] w6 fun v20 w7 =>
  asB v20 fun b21 =>
  br (!b21) (
  R (.tuple #[]) w7) (
  arith .i64 (n10 + 1) fun n22 =>
  ∃ m23, m23 < m11 ∧ I7 n22 w7 m23)) (
  arith .i64 (n10 + 1) fun n24 =>
  ∃ m25, m25 < m11 ∧ I7 n24 w5.drew m25)) (
  R (.tuple #[]) w3))
@[irreducible] def arena_Arena_All_1_ann : Ann := .seq .none (.seq .none (.one (.loop [(14, .int .i64)] (.seq .none (.seq .none (.seq (.one (.seq .none (.seq (.draw [[], [0], [0, 1], [0, 1, 2], [0, 1, 2], [0, 1, 2], [0, 1, 2, 5], [0, 1, 2, 4, 5, 6], [0, 1, 2], [0, 1, 2, 8], [0, 1, 2, 3, 4, 5, 6, 7, 8, 9], [0, 1, 2, 3, 4, 5, 6, 7, 8, 9, 10], [0, 1, 2, 3, 4, 5, 6, 7, 8, 9, 10, 11]] (ol [0, 1, 2, 3, 4, 5, 6, 8, 9, 7, 10, 11, 12] .nil)) .none))) .none))))))
theorem arena_Arena_All_1_call {x0 : Fn} {y0 z0 : Array Value} {x1 : Addr} {R : Value → World → Prop} {w : World} (h : arena_Arena_All_1 x0 y0 z0 x1 R w) : call Try.prog 65 #[.func x0 y0 z0, .pointer (some x1)] w R :=
  call_of_fnW plain mixed Try.func65 arena_Arena_All_1_ann (Eq.mp (by kernel_rfl : arena_Arena_All_1 x0 y0 z0 x1 R w = fnW Try.prog Try.f65 arena_Arena_All_1_ann #[.func x0 y0 z0, .pointer (some x1)] R w) h)

def tenonref11_Heap_away (x0 : Option Addr) (x1 : Int) (R : Value → World → Prop) (w : World) : Prop :=
  call Try.prog 50 #[.pointer x0, .int .u64 x1] w fun v1 w1 =>
  asP v1 fun p2 =>
  ∃ I3 : Option Addr → Nat → Nat → Int → World → Nat → Prop, (∃ m4, I3 none 0 0 0 w1 m4) ∧
  ∀ (u5 : Nat → Value) (p6 : Option Addr) (l6 c6 : Nat) (n7 : Int) (w2 : World) (m8 : Nat), I3 p6 l6 c6 n7 w2 m8 →
  nn x0 fun a9 =>
  ldS (a9.add 2) w2 fun p10 l10 c10 =>
  br (decide ((n7 : Int) < (l10 : Int))) (
  nn x0 fun a11 =>
  ldS (a11.add 2) w2 fun p12 l12 c12 =>
  idx p12 l12 n7 1 fun a13 =>
  ldP a13 w2 fun p14 =>
  nn p14 fun a15 =>
  ldI .u64 (a15.add 0) w2 fun n16 =>
  br ((n16 : Int) != x1) (
  nn x0 fun a17 =>
  ldS (a17.add 2) w2 fun p18 l18 c18 =>
  idx p18 l18 n7 1 fun a19 =>
  ldP a19 w2 fun p20 =>
  new #[.pointer p20] 113 w2 fun k21 w3 =>
  runsS Try.prog (Builtin.append_ #[68, 68] 68 #[.slice p6 l6 c6, .slice (some (⟨k21, 0, none⟩ : Addr)) 1 1]) w3 fun p22 l22 c22 w4 =>
  arith .i64 (n7 + 1) fun n23 =>
  ∃ m24, m24 < m8 ∧ I3 p22 l22 c22 n23 w4 m24) (
  arith .i64 (n7 + 1) fun n25 =>
  ∃ m26, m26 < m8 ∧ I3 p6 l6 c6 n25 w2 m26)) (
  nn x0 fun a27 =>
  st (a27.add 2) (.slice p6 l6 c6) w2 fun w5 =>
  nn x0 fun a28 =>
  ldP (a28.add 1) w5.drew fun p29 =>
  nn x0 fun a30 =>
  ldP (a30.add 1) w5.drew fun p31 =>
  call Try.prog 69 #[.pointer p31, .int .u64 x1] w5.drew fun v32 w6 =>
  asI .i64 v32 fun n33 =>
  w6.cell? (a28.add 1) = some (.pointer p29) ∧
  call Try.prog 68 #[.pointer p29, .int .i64 n33] w6 fun v34 w7 =>
  v34 = .tuple #[] ∧
  R (.pointer p2) w7)
@[irreducible] def tenonref11_Heap_away_ann : Ann := .seq .none (.seq .none (.seq .none (.seq (.seq .none (.one (.loop [(6, .slice), (7, .int .i64)] .none))) (.seq .none (.seq (.draw [[], [0], [0, 1], [0, 1, 2], [], [4], [4, 5], [4, 5, 6], [], [4, 5, 6, 7, 8], [0, 1, 2, 3, 4, 5, 6, 7, 8, 9]] (ol [0, 1, 2, 3, 4, 5, 6, 7, 8, 9, 10] .nil)) .none)))))
theorem tenonref11_Heap_away_call {x0 : Option Addr} {x1 : Int} {R : Value → World → Prop} {w : World} (h : tenonref11_Heap_away x0 x1 R w) : call Try.prog 66 #[.pointer x0, .int .u64 x1] w R :=
  call_of_fnW plain mixed Try.func66 tenonref11_Heap_away_ann (Eq.mp (by kernel_rfl : tenonref11_Heap_away x0 x1 R w = fnW Try.prog Try.f66 tenonref11_Heap_away_ann #[.pointer x0, .int .u64 x1] R w) h)

def arena_Split (x0 : Int) (R : Value → World → Prop) (w : World) : Prop :=
  arith .u32 x0 fun n1 =>
  arith .i64 n1 fun n2 =>
  arith .i64 (n2 - 1) fun n3 =>
  shr .u64 x0 32 fun n4 =>
  arith .u32 n4 fun n5 =>
  R (.tuple #[.int .i64 n3, .int .u32 n5]) w
@[irreducible] def arena_Split_ann : Ann := .none
theorem arena_Split_call {x0 : Int} {R : Value → World → Prop} {w : World} (h : arena_Split x0 R w) : call Try.prog 67 #[.int .u64 x0] w R :=
  call_of_fnW plain mixed Try.func67 arena_Split_ann (Eq.mp (by kernel_rfl : arena_Split x0 R w = fnW Try.prog Try.f67 arena_Split_ann #[.int .u64 x0] R w) h)

def tenonref02_Arena_Drop (x0 : Option Addr) (x1 : Int) (R : Value → World → Prop) (w : World) : Prop :=
  nn x0 fun a1 =>
  ldS (a1.add 2) w fun p2 l2 c2 =>
  idx p2 l2 x1 3 fun a3 =>
  st (a3.add 0) (.int .i64 0) w fun w1 =>
  nn x0 fun a4 =>
  ldS (a4.add 2) w1 fun p5 l5 c5 =>
  idx p5 l5 x1 3 fun a6 =>
  ldI .u32 (a6.add 1) w1 fun n7 =>
  br ((n7 : Int) == 4294967295) (
  nn x0 fun a8 =>
  ldS (a8.add 2) w1 fun p9 l9 c9 =>
  idx p9 l9 x1 3 fun a10 =>
  st (a10.add 2) (.int .i64 2) w1 fun w2 =>
  R (.tuple #[]) w2) (
  nn x0 fun a11 =>
  ldS (a11.add 2) w1 fun p12 l12 c12 =>
  idx p12 l12 x1 3 fun a13 =>
  st (a13.add 2) (.int .i64 0) w1 fun w3 =>
  nn x0 fun a14 =>
  ldS (a14.add 2) w3 fun p15 l15 c15 =>
  idx p15 l15 x1 3 fun a16 =>
  ldI .u32 (a16.add 1) w3 fun n17 =>
  arith .u32 (n17 + 1) fun n18 =>
  idx p15 l15 x1 3 fun a19 =>
  st (a19.add 1) (.int .u32 n18) w3 fun w4 =>
  nn x0 fun a20 =>
  ldS (a20.add 3) w4 fun p21 l21 c21 =>
  new #[.int .i64 x1] 3 w4 fun k22 w5 =>
  runsS Try.prog (Builtin.append_ #[43, 43] 43 #[.slice p21 l21 c21, .slice (some (⟨k22, 0, none⟩ : Addr)) 1 1]) w5 fun p23 l23 c23 w6 =>
  nn x0 fun a24 =>
  st (a24.add 3) (.slice p23 l23 c23) w6 fun w7 =>
  R (.tuple #[]) w7)
@[irreducible] def tenonref02_Arena_Drop_ann : Ann := .none
theorem tenonref02_Arena_Drop_call {x0 : Option Addr} {x1 : Int} {R : Value → World → Prop} {w : World} (h : tenonref02_Arena_Drop x0 x1 R w) : call Try.prog 68 #[.pointer x0, .int .i64 x1] w R :=
  call_of_fnW plain mixed Try.func68 tenonref02_Arena_Drop_ann (Eq.mp (by kernel_rfl : tenonref02_Arena_Drop x0 x1 R w = fnW Try.prog Try.f68 tenonref02_Arena_Drop_ann #[.pointer x0, .int .i64 x1] R w) h)

def tenonref02_Arena_At (x0 : Option Addr) (x1 : Int) (R : Value → World → Prop) (w : World) : Prop :=
  ∃ I1 : Int → World → Nat → Prop, (∃ m2, I1 0 w m2) ∧
  ∀ (u3 : Nat → Value) (n4 : Int) (w1 : World) (m5 : Nat), I1 n4 w1 m5 →
  nn x0 fun a6 =>
  ldS (a6.add 2) w1 fun p7 l7 c7 =>
  br (decide ((n4 : Int) < (l7 : Int))) (
  nn x0 fun a8 =>
  ldS (a8.add 2) w1 fun p9 l9 c9 =>
  idx p9 l9 n4 3 fun a10 =>
  ldI .i64 (a10.add 2) w1 fun n11 =>
  br ((n11 : Int) == 1) (
  nn x0 fun a12 =>
  ldS (a12.add 2) w1 fun p13 l13 c13 =>
  idx p13 l13 n4 3 fun a14 =>
  ldI .u32 (a14.add 1) w1 fun n15 =>
  call Try.prog 53 #[.int .i64 n4, .int .u32 n15] w1 fun v16 w2 =>
  asI .u64 v16 fun n17 =>
  br ((n17 : Int) == x1) (
  R (.int .i64 n4) w2) (
  arith .i64 (n4 + 1) fun n18 =>
  ∃ m19, m19 < m5 ∧ I1 n18 w2 m19)) (
  arith .i64 (n4 + 1) fun n20 =>
  ∃ m21, m21 < m5 ∧ I1 n20 w1 m21)) (
  R (.int .i64 (-1)) w1)
@[irreducible] def tenonref02_Arena_At_ann : Ann := .seq .none (.seq (.seq .none (.one (.loop [(5, .int .i64)] .none))) .none)
theorem tenonref02_Arena_At_call {x0 : Option Addr} {x1 : Int} {R : Value → World → Prop} {w : World} (h : tenonref02_Arena_At x0 x1 R w) : call Try.prog 69 #[.pointer x0, .int .u64 x1] w R :=
  call_of_fnW plain mixed Try.func69 tenonref02_Arena_At_ann (Eq.mp (by kernel_rfl : tenonref02_Arena_At x0 x1 R w = fnW Try.prog Try.f69 tenonref02_Arena_At_ann #[.pointer x0, .int .u64 x1] R w) h)

end Go.Proofs.Ytgchemgnmijpdaa
