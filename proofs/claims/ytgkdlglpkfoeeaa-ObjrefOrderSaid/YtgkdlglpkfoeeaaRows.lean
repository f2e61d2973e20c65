/-
  No cell of these rows narrows 'for every input' (looked for: loops, veiled, ifaces, maps, wideKeys, modest, calm, conditions, laid).
  DERIVED. THE GIVEN ROWS OF THIS SEAT. 4 by the template 'for every input the law returns true; each argument reads behind the call as it read before'; 0 by the template 'total and deterministic' (their statements: YtgkdlglpkfoeeaaTotals.lean).
  GIVEN WITH THE SEED: the statements are not yours to turn. If you find one false, say at which input.
  Laid BY PROGRAM, IN A SANDBOX (cutbox-rows.mjs): the forced cells as the released guide's own fill.sh prints them over the translation 56d34c39f0d7bc51… (all of the seat's roots in one cut). By AI agents, Wed Nov 11 2026. No macro, syntax, notation, axiom, sorry.
-/
import Derived.Test.YtgkdlglpkfoeeaaChecked
import GoSem.Claim
import GoSem.ClaimJoined
import GoSem.ClaimMapViews
import Derived.JoinedTies
import Derived.KernelRfl
namespace Go.Proofs.Ytgkdlglpkfoeeaa
/- THE CELL 'sum', in the pinned program and in every row, IS THE sha256 OF THE DUMP (.gsa) THAT YtgkdlglpkfoeeaaProg.lean LOADS. Nothing in Lean hashes anything: it is a label: what it is worth is what the hold of that sum in a sandbox is worth. -/
noncomputable def Try.pinned : Pinned := { name := "ytgkdlglpkfoeeaa", sum := "56d34c39f0d7bc510753b6f5b64b139bb2b58d4a8e4cd2b7fbbd8b179945cba9", checked := Try.checked }
namespace Rows
def none {H : Type} : Left H := { results := [], args := [] }

/-- 'tenonlaw07.ObjrefEncodes': WHATEVER THE INPUT: true; the input reads as it did. -/
def objrefEncodesSpec : ChangeSpec := { name := "objrefEncodes", fn := fun _ => fun
  | [d] => { results := [.lit (.bool true)], args := [d] }
  | _ => none }
def objrefEncodesRow : OpenClaim := { program := "ytgkdlglpkfoeeaa", sum := "56d34c39f0d7bc510753b6f5b64b139bb2b58d4a8e4cd2b7fbbd8b179945cba9", func := "tenon/tenonlaw07.ObjrefEncodes", spec := "objrefEncodes", apart := false }
def ObjrefEncodesSaid : Prop := objrefEncodesRow.holds Try.pinned (OpenSpec.ofChange objrefEncodesSpec)

/-- ITS FALSE NEIGHBOUR: 'it returns false'. Refute it at one input. -/
def objrefEncodesWrong : ChangeSpec := { name := "objrefEncodes", fn := fun _ => fun
  | [d] => { results := [.lit (.bool false)], args := [d] }
  | _ => none }
def ObjrefEncodesWrongFalsely : Prop := objrefEncodesRow.holds Try.pinned (OpenSpec.ofChange objrefEncodesWrong)

/-- 'tenonlaw07.ObjrefDecodes': WHATEVER THE INPUT: true; the input reads as it did. -/
def objrefDecodesSpec : ChangeSpec := { name := "objrefDecodes", fn := fun _ => fun
  | [d] => { results := [.lit (.bool true)], args := [d] }
  | _ => none }
def objrefDecodesRow : OpenClaim := { program := "ytgkdlglpkfoeeaa", sum := "56d34c39f0d7bc510753b6f5b64b139bb2b58d4a8e4cd2b7fbbd8b179945cba9", func := "tenon/tenonlaw07.ObjrefDecodes", spec := "objrefDecodes", apart := false }
def ObjrefDecodesSaid : Prop := objrefDecodesRow.holds Try.pinned (OpenSpec.ofChange objrefDecodesSpec)

/-- ITS FALSE NEIGHBOUR: 'it returns false'. Refute it at one input. -/
def objrefDecodesWrong : ChangeSpec := { name := "objrefDecodes", fn := fun _ => fun
  | [d] => { results := [.lit (.bool false)], args := [d] }
  | _ => none }
def ObjrefDecodesWrongFalsely : Prop := objrefDecodesRow.holds Try.pinned (OpenSpec.ofChange objrefDecodesWrong)

/-- 'tenonlaw07.ObjrefBack': WHATEVER THE INPUT: true; the input reads as it did. -/
def objrefBackSpec : ChangeSpec := { name := "objrefBack", fn := fun _ => fun
  | [d1, d2, d3] => { results := [.lit (.bool true)], args := [d1, d2, d3] }
  | _ => none }
def objrefBackRow : OpenClaim := { program := "ytgkdlglpkfoeeaa", sum := "56d34c39f0d7bc510753b6f5b64b139bb2b58d4a8e4cd2b7fbbd8b179945cba9", func := "tenon/tenonlaw07.ObjrefBack", spec := "objrefBack", apart := false }
def ObjrefBackSaid : Prop := objrefBackRow.holds Try.pinned (OpenSpec.ofChange objrefBackSpec)

/-- ITS FALSE NEIGHBOUR: 'it returns false'. Refute it at one input. -/
def objrefBackWrong : ChangeSpec := { name := "objrefBack", fn := fun _ => fun
  | [d1, d2, d3] => { results := [.lit (.bool false)], args := [d1, d2, d3] }
  | _ => none }
def ObjrefBackWrongFalsely : Prop := objrefBackRow.holds Try.pinned (OpenSpec.ofChange objrefBackWrong)

/-- 'tenonlaw07.ObjrefOrder': WHATEVER THE INPUT: true; the input reads as it did. -/
def objrefOrderSpec : ChangeSpec := { name := "objrefOrder", fn := fun _ => fun
  | [d1, d2, d3] => { results := [.lit (.bool true)], args := [d1, d2, d3] }
  | _ => none }
def objrefOrderRow : OpenClaim := { program := "ytgkdlglpkfoeeaa", sum := "56d34c39f0d7bc510753b6f5b64b139bb2b58d4a8e4cd2b7fbbd8b179945cba9", func := "tenon/tenonlaw07.ObjrefOrder", spec := "objrefOrder", inPlace := ["internal/bytealg.Compare"], apart := false }
def ObjrefOrderSaid : Prop := objrefOrderRow.holds Try.pinned (OpenSpec.ofChange objrefOrderSpec)

/-- ITS FALSE NEIGHBOUR: 'it returns false'. Refute it at one input. -/
def objrefOrderWrong : ChangeSpec := { name := "objrefOrder", fn := fun _ => fun
  | [d1, d2, d3] => { results := [.lit (.bool false)], args := [d1, d2, d3] }
  | _ => none }
def ObjrefOrderWrongFalsely : Prop := objrefOrderRow.holds Try.pinned (OpenSpec.ofChange objrefOrderWrong)

/- THE SECOND FORM. 'bulk': how many values and letters a reading holds, each counted each time it is reached (what is shared counts as often as it is met; a slice's spare places count too). A statement '..UptoSaid' is the law's where the arguments, and the package variables that the reading takes, are together of bulk at most 1048576: NARROWER than '..Said'. Prove '..Said' where nothing that the law and all that it calls make is longer than what came in: it says more and counts as full. Else prove '..UptoSaid'. A law counts once. -/
mutual
def uptoBulk {H : Type} : DataW H → Nat
  | .lit (.string bytes) => bytes.length + 1
  | .lit _ => 1
  | .nil => 1
  | .ptr d => uptoBulk d + 1
  | .slice elems spare => uptoBulkAll elems + uptoBulkAll spare + 1
  | .agg parts => uptoBulkAll parts + 1
  | .iface _ d => uptoBulk d + 1
  | .map entries => uptoBulkEntries entries + 1
  | .held _ => 1
def uptoBulkAll {H : Type} : List (DataW H) → Nat
  | [] => 0
  | d :: r => uptoBulk d + uptoBulkAll r
def uptoBulkEntries {H : Type} : List (Lit × DataW H) → Nat
  | [] => 0
  | x :: r => uptoBulkEntry x + uptoBulkEntries r
def uptoBulkEntry {H : Type} : Lit × DataW H → Nat
  | (.string bytes, d) => bytes.length + uptoBulk d + 1
  | (_, d) => uptoBulk d + 1
 end
def uptoSmall : (H : Type) → List (DataW H) → Bool := fun _ ds => decide (uptoBulkAll ds ≤ 1048576)
def OpenSpec.upto (s : _root_.Go.ChangeSpec) : _root_.Go.OpenSpec := { _root_.Go.OpenSpec.ofChange s with cond := some uptoSmall }

/-- 'tenonlaw07.ObjrefEncodes', WHERE WHAT IT READS IS OF BULK AT MOST 1048576: true; the input reads as it did. -/
def objrefEncodesUptoRow : OpenClaim := { program := "ytgkdlglpkfoeeaa", sum := "56d34c39f0d7bc510753b6f5b64b139bb2b58d4a8e4cd2b7fbbd8b179945cba9", func := "tenon/tenonlaw07.ObjrefEncodes", spec := "objrefEncodes", apart := false, narrowed := true }
def ObjrefEncodesUptoSaid : Prop := objrefEncodesUptoRow.holds Try.pinned (OpenSpec.upto objrefEncodesSpec)

/-- 'tenonlaw07.ObjrefDecodes', WHERE WHAT IT READS IS OF BULK AT MOST 1048576: true; the input reads as it did. -/
def objrefDecodesUptoRow : OpenClaim := { program := "ytgkdlglpkfoeeaa", sum := "56d34c39f0d7bc510753b6f5b64b139bb2b58d4a8e4cd2b7fbbd8b179945cba9", func := "tenon/tenonlaw07.ObjrefDecodes", spec := "objrefDecodes", apart := false, narrowed := true }
def ObjrefDecodesUptoSaid : Prop := objrefDecodesUptoRow.holds Try.pinned (OpenSpec.upto objrefDecodesSpec)

/-- 'tenonlaw07.ObjrefBack', WHERE WHAT IT READS IS OF BULK AT MOST 1048576: true; the input reads as it did. -/
def objrefBackUptoRow : OpenClaim := { program := "ytgkdlglpkfoeeaa", sum := "56d34c39f0d7bc510753b6f5b64b139bb2b58d4a8e4cd2b7fbbd8b179945cba9", func := "tenon/tenonlaw07.ObjrefBack", spec := "objrefBack", apart := false, narrowed := true }
def ObjrefBackUptoSaid : Prop := objrefBackUptoRow.holds Try.pinned (OpenSpec.upto objrefBackSpec)

/-- 'tenonlaw07.ObjrefOrder', WHERE WHAT IT READS IS OF BULK AT MOST 1048576: true; the input reads as it did. -/
def objrefOrderUptoRow : OpenClaim := { program := "ytgkdlglpkfoeeaa", sum := "56d34c39f0d7bc510753b6f5b64b139bb2b58d4a8e4cd2b7fbbd8b179945cba9", func := "tenon/tenonlaw07.ObjrefOrder", spec := "objrefOrder", inPlace := ["internal/bytealg.Compare"], apart := false, narrowed := true }
def ObjrefOrderUptoSaid : Prop := objrefOrderUptoRow.holds Try.pinned (OpenSpec.upto objrefOrderSpec)

end Rows
end Go.Proofs.Ytgkdlglpkfoeeaa
