/-
  No cell of these rows narrows 'for every input' (looked for: loops, veiled, ifaces, maps, wideKeys, modest, calm, conditions, laid).
  DERIVED. THE GIVEN ROWS OF THIS SEAT. 7 by the template 'for every input the law returns true; each argument reads behind the call as it read before'; 0 by the template 'total and deterministic' (their statements: YtifcjbgkcgbefaaTotals.lean).
  GIVEN WITH THE SEED: the statements are not yours to turn. If you find one false, say at which input.
  Laid BY PROGRAM, IN A SANDBOX (cutbox-rows.mjs): the forced cells as the released guide's own fill.sh prints them over the translation a3708a18e6975996… (all of the seat's roots in one cut). By AI agents, Wed Nov 11 2026. No macro, syntax, notation, axiom, sorry.
-/
import Derived.Test.YtifcjbgkcgbefaaChecked
import GoSem.Claim
import GoSem.ClaimJoined
import GoSem.ClaimMapViews
import Derived.JoinedTies
import Derived.KernelRfl
namespace Go.Proofs.Ytifcjbgkcgbefaa
/- THE CELL 'sum', in the pinned program and in every row, IS THE sha256 OF THE DUMP (.gsa) THAT YtifcjbgkcgbefaaProg.lean LOADS. Nothing in Lean hashes anything: it is a label: what it is worth is what the hold of that sum in a sandbox is worth. -/
noncomputable def Try.pinned : Pinned := { name := "ytifcjbgkcgbefaa", sum := "a3708a18e6975996f97953d84ea3f9cbe1f0b34f2f44155dc75f3cb674ed5d38", checked := Try.checked }
namespace Rows
def none {H : Type} : Left H := { results := [], args := [] }

/-- 'tenonlaw02.ArenaOnce': WHATEVER THE INPUT: true; the input reads as it did. -/
def arenaOnceSpec : ChangeSpec := { name := "arenaOnce", fn := fun _ => fun
  | [d1, d2, d3] => { results := [.lit (.bool true)], args := [d1, d2, d3] }
  | _ => none }
def arenaOnceRow : OpenClaim := { program := "ytifcjbgkcgbefaa", sum := "a3708a18e6975996f97953d84ea3f9cbe1f0b34f2f44155dc75f3cb674ed5d38", func := "tenon/tenonlaw02.ArenaOnce", spec := "arenaOnce", apart := false }
def ArenaOnceSaid : Prop := arenaOnceRow.holds Try.pinned (OpenSpec.ofChange arenaOnceSpec)

/-- ITS FALSE NEIGHBOUR: 'it returns false'. Refute it at one input. -/
def arenaOnceWrong : ChangeSpec := { name := "arenaOnce", fn := fun _ => fun
  | [d1, d2, d3] => { results := [.lit (.bool false)], args := [d1, d2, d3] }
  | _ => none }
def ArenaOnceWrongFalsely : Prop := arenaOnceRow.holds Try.pinned (OpenSpec.ofChange arenaOnceWrong)

/-- 'tenonlaw02.ArenaSplits': WHATEVER THE INPUT: true; the input reads as it did. -/
def arenaSplitsSpec : ChangeSpec := { name := "arenaSplits", fn := fun _ => fun
  | [d] => { results := [.lit (.bool true)], args := [d] }
  | _ => none }
def arenaSplitsRow : OpenClaim := { program := "ytifcjbgkcgbefaa", sum := "a3708a18e6975996f97953d84ea3f9cbe1f0b34f2f44155dc75f3cb674ed5d38", func := "tenon/tenonlaw02.ArenaSplits", spec := "arenaSplits", apart := false }
def ArenaSplitsSaid : Prop := arenaSplitsRow.holds Try.pinned (OpenSpec.ofChange arenaSplitsSpec)

/-- ITS FALSE NEIGHBOUR: 'it returns false'. Refute it at one input. -/
def arenaSplitsWrong : ChangeSpec := { name := "arenaSplits", fn := fun _ => fun
  | [d] => { results := [.lit (.bool false)], args := [d] }
  | _ => none }
def ArenaSplitsWrongFalsely : Prop := arenaSplitsRow.holds Try.pinned (OpenSpec.ofChange arenaSplitsWrong)

/-- 'tenonlaw02.ArenaFull': WHATEVER THE INPUT: true; the input reads as it did. -/
def arenaFullSpec : ChangeSpec := { name := "arenaFull", fn := fun _ => fun
  | [d1, d2] => { results := [.lit (.bool true)], args := [d1, d2] }
  | _ => none }
def arenaFullRow : OpenClaim := { program := "ytifcjbgkcgbefaa", sum := "a3708a18e6975996f97953d84ea3f9cbe1f0b34f2f44155dc75f3cb674ed5d38", func := "tenon/tenonlaw02.ArenaFull", spec := "arenaFull", apart := false }
def ArenaFullSaid : Prop := arenaFullRow.holds Try.pinned (OpenSpec.ofChange arenaFullSpec)

/-- ITS FALSE NEIGHBOUR: 'it returns false'. Refute it at one input. -/
def arenaFullWrong : ChangeSpec := { name := "arenaFull", fn := fun _ => fun
  | [d1, d2] => { results := [.lit (.bool false)], args := [d1, d2] }
  | _ => none }
def ArenaFullWrongFalsely : Prop := arenaFullRow.holds Try.pinned (OpenSpec.ofChange arenaFullWrong)

/-- 'tenonlaw02.ArenaPlays': WHATEVER THE INPUT: true; the input reads as it did. -/
def arenaPlaysSpec : ChangeSpec := { name := "arenaPlays", fn := fun _ => fun
  | [d1, d2, d3] => { results := [.lit (.bool true)], args := [d1, d2, d3] }
  | _ => none }
def arenaPlaysRow : OpenClaim := { program := "ytifcjbgkcgbefaa", sum := "a3708a18e6975996f97953d84ea3f9cbe1f0b34f2f44155dc75f3cb674ed5d38", func := "tenon/tenonlaw02.ArenaPlays", spec := "arenaPlays", apart := false }
def ArenaPlaysSaid : Prop := arenaPlaysRow.holds Try.pinned (OpenSpec.ofChange arenaPlaysSpec)

/-- ITS FALSE NEIGHBOUR: 'it returns false'. Refute it at one input. -/
def arenaPlaysWrong : ChangeSpec := { name := "arenaPlays", fn := fun _ => fun
  | [d1, d2, d3] => { results := [.lit (.bool false)], args := [d1, d2, d3] }
  | _ => none }
def ArenaPlaysWrongFalsely : Prop := arenaPlaysRow.holds Try.pinned (OpenSpec.ofChange arenaPlaysWrong)

/-- 'tenonlaw02.ArenaStale': WHATEVER THE INPUT: true; the input reads as it did. -/
def arenaStaleSpec : ChangeSpec := { name := "arenaStale", fn := fun _ => fun
  | [d1, d2, d3] => { results := [.lit (.bool true)], args := [d1, d2, d3] }
  | _ => none }
def arenaStaleRow : OpenClaim := { program := "ytifcjbgkcgbefaa", sum := "a3708a18e6975996f97953d84ea3f9cbe1f0b34f2f44155dc75f3cb674ed5d38", func := "tenon/tenonlaw02.ArenaStale", spec := "arenaStale", apart := false }
def ArenaStaleSaid : Prop := arenaStaleRow.holds Try.pinned (OpenSpec.ofChange arenaStaleSpec)

/-- ITS FALSE NEIGHBOUR: 'it returns false'. Refute it at one input. -/
def arenaStaleWrong : ChangeSpec := { name := "arenaStale", fn := fun _ => fun
  | [d1, d2, d3] => { results := [.lit (.bool false)], args := [d1, d2, d3] }
  | _ => none }
def ArenaStaleWrongFalsely : Prop := arenaStaleRow.holds Try.pinned (OpenSpec.ofChange arenaStaleWrong)

/-- 'tenonlaw02.ArenaAll': WHATEVER THE INPUT: true; the input reads as it did. -/
def arenaAllSpec : ChangeSpec := { name := "arenaAll", fn := fun _ => fun
  | [d1, d2, d3] => { results := [.lit (.bool true)], args := [d1, d2, d3] }
  | _ => none }
def arenaAllRow : OpenClaim := { program := "ytifcjbgkcgbefaa", sum := "a3708a18e6975996f97953d84ea3f9cbe1f0b34f2f44155dc75f3cb674ed5d38", func := "tenon/tenonlaw02.ArenaAll", spec := "arenaAll", unfollowed := true, recurses := true, apart := false }
def ArenaAllSaid : Prop := arenaAllRow.holds Try.pinned (OpenSpec.ofChange arenaAllSpec)

/-- ITS FALSE NEIGHBOUR: 'it returns false'. Refute it at one input. -/
def arenaAllWrong : ChangeSpec := { name := "arenaAll", fn := fun _ => fun
  | [d1, d2, d3] => { results := [.lit (.bool false)], args := [d1, d2, d3] }
  | _ => none }
def ArenaAllWrongFalsely : Prop := arenaAllRow.holds Try.pinned (OpenSpec.ofChange arenaAllWrong)

/-- 'tenonlaw02.ArenaNil': WHATEVER THE INPUT: true; the input reads as it did. -/
def arenaNilSpec : ChangeSpec := { name := "arenaNil", fn := fun _ => fun
  | [d1, d2] => { results := [.lit (.bool true)], args := [d1, d2] }
  | _ => none }
def arenaNilRow : OpenClaim := { program := "ytifcjbgkcgbefaa", sum := "a3708a18e6975996f97953d84ea3f9cbe1f0b34f2f44155dc75f3cb674ed5d38", func := "tenon/tenonlaw02.ArenaNil", spec := "arenaNil", unfollowed := true, recurses := true, apart := false }
def ArenaNilSaid : Prop := arenaNilRow.holds Try.pinned (OpenSpec.ofChange arenaNilSpec)

/-- ITS FALSE NEIGHBOUR: 'it returns false'. Refute it at one input. -/
def arenaNilWrong : ChangeSpec := { name := "arenaNil", fn := fun _ => fun
  | [d1, d2] => { results := [.lit (.bool false)], args := [d1, d2] }
  | _ => none }
def ArenaNilWrongFalsely : Prop := arenaNilRow.holds Try.pinned (OpenSpec.ofChange arenaNilWrong)

/- THE SECOND FORM. 'bulk': how many values and letters a reading holds, each counted each time it is reached (what is shared counts as often as it is met; a slice's spare places count too). A statement '..UptoSaid' is the law's where the arguments, and the package variables that the reading takes, are together of bulk at most 1048576: NARROWER than '..Said'. Prove '..Said' where nothing that the law and all that it calls make is longer than what came in: it says more and counts as full. Else prove '..UptoSaid'. A law counts once. -/
mutual
def uptoBulk {H : Type} : DataW H → Nat
  | .lit (.string bytes) => bytes.length + 1
  | .lit _ => 1
  | .nil => 1
  | .ptr d => uptoBulk d + 1
  | .slice elems spare => uptoBulkAll elems + uptoBulkAll spare + 1
  | .agg parts => uptoBulkAll parts + 1
  | .iface _ d => uptoBulk d + 1
  | .map entries => uptoBulkEntries entries + 1
  | .held _ => 1
def uptoBulkAll {H : Type} : List (DataW H) → Nat
  | [] => 0
  | d :: r => uptoBulk d + uptoBulkAll r
def uptoBulkEntries {H : Type} : List (Lit × DataW H) → Nat
  | [] => 0
  | x :: r => uptoBulkEntry x + uptoBulkEntries r
def uptoBulkEntry {H : Type} : Lit × DataW H → Nat
  | (.string bytes, d) => bytes.length + uptoBulk d + 1
  | (_, d) => uptoBulk d + 1
 end
def uptoSmall : (H : Type) → List (DataW H) → Bool := fun _ ds => decide (uptoBulkAll ds ≤ 1048576)
def OpenSpec.upto (s : _root_.Go.ChangeSpec) : _root_.Go.OpenSpec := { _root_.Go.OpenSpec.ofChange s with cond := some uptoSmall }

/-- 'tenonlaw02.ArenaOnce', WHERE WHAT IT READS IS OF BULK AT MOST 1048576: true; the input reads as it did. -/
def arenaOnceUptoRow : OpenClaim := { program := "ytifcjbgkcgbefaa", sum := "a3708a18e6975996f97953d84ea3f9cbe1f0b34f2f44155dc75f3cb674ed5d38", func := "tenon/tenonlaw02.ArenaOnce", spec := "arenaOnce", apart := false, narrowed := true }
def ArenaOnceUptoSaid : Prop := arenaOnceUptoRow.holds Try.pinned (OpenSpec.upto arenaOnceSpec)

/-- 'tenonlaw02.ArenaSplits', WHERE WHAT IT READS IS OF BULK AT MOST 1048576: true; the input reads as it did. -/
def arenaSplitsUptoRow : OpenClaim := { program := "ytifcjbgkcgbefaa", sum := "a3708a18e6975996f97953d84ea3f9cbe1f0b34f2f44155dc75f3cb674ed5d38", func := "tenon/tenonlaw02.ArenaSplits", spec := "arenaSplits", apart := false, narrowed := true }
def ArenaSplitsUptoSaid : Prop := arenaSplitsUptoRow.holds Try.pinned (OpenSpec.upto arenaSplitsSpec)

/-- 'tenonlaw02.ArenaFull', WHERE WHAT IT READS IS OF BULK AT MOST 1048576: true; the input reads as it did. -/
def arenaFullUptoRow : OpenClaim := { program := "ytifcjbgkcgbefaa", sum := "a3708a18e6975996f97953d84ea3f9cbe1f0b34f2f44155dc75f3cb674ed5d38", func := "tenon/tenonlaw02.ArenaFull", spec := "arenaFull", apart := false, narrowed := true }
def ArenaFullUptoSaid : Prop := arenaFullUptoRow.holds Try.pinned (OpenSpec.upto arenaFullSpec)

/-- 'tenonlaw02.ArenaPlays', WHERE WHAT IT READS IS OF BULK AT MOST 1048576: true; the input reads as it did. -/
def arenaPlaysUptoRow : OpenClaim := { program := "ytifcjbgkcgbefaa", sum := "a3708a18e6975996f97953d84ea3f9cbe1f0b34f2f44155dc75f3cb674ed5d38", func := "tenon/tenonlaw02.ArenaPlays", spec := "arenaPlays", apart := false, narrowed := true }
def ArenaPlaysUptoSaid : Prop := arenaPlaysUptoRow.holds Try.pinned (OpenSpec.upto arenaPlaysSpec)

/-- 'tenonlaw02.ArenaStale', WHERE WHAT IT READS IS OF BULK AT MOST 1048576: true; the input reads as it did. -/
def arenaStaleUptoRow : OpenClaim := { program := "ytifcjbgkcgbefaa", sum := "a3708a18e6975996f97953d84ea3f9cbe1f0b34f2f44155dc75f3cb674ed5d38", func := "tenon/tenonlaw02.ArenaStale", spec := "arenaStale", apart := false, narrowed := true }
def ArenaStaleUptoSaid : Prop := arenaStaleUptoRow.holds Try.pinned (OpenSpec.upto arenaStaleSpec)

/-- 'tenonlaw02.ArenaAll', WHERE WHAT IT READS IS OF BULK AT MOST 1048576: true; the input reads as it did. -/
def arenaAllUptoRow : OpenClaim := { program := "ytifcjbgkcgbefaa", sum := "a3708a18e6975996f97953d84ea3f9cbe1f0b34f2f44155dc75f3cb674ed5d38", func := "tenon/tenonlaw02.ArenaAll", spec := "arenaAll", unfollowed := true, recurses := true, apart := false, narrowed := true }
def ArenaAllUptoSaid : Prop := arenaAllUptoRow.holds Try.pinned (OpenSpec.upto arenaAllSpec)

/-- 'tenonlaw02.ArenaNil', WHERE WHAT IT READS IS OF BULK AT MOST 1048576: true; the input reads as it did. -/
def arenaNilUptoRow : OpenClaim := { program := "ytifcjbgkcgbefaa", sum := "a3708a18e6975996f97953d84ea3f9cbe1f0b34f2f44155dc75f3cb674ed5d38", func := "tenon/tenonlaw02.ArenaNil", spec := "arenaNil", unfollowed := true, recurses := true, apart := false, narrowed := true }
def ArenaNilUptoSaid : Prop := arenaNilUptoRow.holds Try.pinned (OpenSpec.upto arenaNilSpec)

end Rows
end Go.Proofs.Ytifcjbgkcgbefaa
