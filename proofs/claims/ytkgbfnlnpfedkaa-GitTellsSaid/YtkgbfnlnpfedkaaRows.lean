/-
  No cell of these rows narrows 'for every input' (looked for: loops, veiled, ifaces, maps, wideKeys, modest, calm, conditions, laid).
  DERIVED. THE GIVEN ROWS OF THIS SEAT. 4 by the template 'for every input the law returns true; each argument reads behind the call as it read before'; 0 by the template 'total and deterministic' (their statements: YtkgbfnlnpfedkaaTotals.lean).
  GIVEN WITH THE SEED: the statements are not yours to turn. If you find one false, say at which input.
  Laid BY PROGRAM, IN A SANDBOX (cutbox-rows.mjs): the forced cells as the released guide's own fill.sh prints them over the translation 8136fb6f992832c8… (all of the seat's roots in one cut). By AI agents, Wed Nov 11 2026. No macro, syntax, notation, axiom, sorry.
-/
import Derived.Test.YtkgbfnlnpfedkaaChecked
import GoSem.Claim
import GoSem.ClaimJoined
import GoSem.ClaimMapViews
import Derived.JoinedTies
import Derived.KernelRfl
namespace Go.Proofs.Ytkgbfnlnpfedkaa
/- THE CELL 'sum', in the pinned program and in every row, IS THE sha256 OF THE DUMP (.gsa) THAT YtkgbfnlnpfedkaaProg.lean LOADS. Nothing in Lean hashes anything: it is a label: what it is worth is what the hold of that sum in a sandbox is worth. -/
noncomputable def Try.pinned : Pinned := { name := "ytkgbfnlnpfedkaa", sum := "8136fb6f992832c8d71708ce8020611b36d185be2d30d5f2dcf8de08efe4f787", checked := Try.checked }
namespace Rows
def none {H : Type} : Left H := { results := [], args := [] }

/-- 'tenonlaw19.GitKeeps': WHATEVER THE INPUT: true; the input reads as it did. -/
def gitKeepsSpec : ChangeSpec := { name := "gitKeeps", fn := fun _ => fun
  | [d1, d2] => { results := [.lit (.bool true)], args := [d1, d2] }
  | _ => none }
def gitKeepsRow : OpenClaim := { program := "ytkgbfnlnpfedkaa", sum := "8136fb6f992832c8d71708ce8020611b36d185be2d30d5f2dcf8de08efe4f787", func := "tenon/tenonlaw19.GitKeeps", spec := "gitKeeps", unfollowed := true, recurses := true, apart := false }
def GitKeepsSaid : Prop := gitKeepsRow.holds Try.pinned (OpenSpec.ofChange gitKeepsSpec)

/-- ITS FALSE NEIGHBOUR: 'it returns false'. Refute it at one input. -/
def gitKeepsWrong : ChangeSpec := { name := "gitKeeps", fn := fun _ => fun
  | [d1, d2] => { results := [.lit (.bool false)], args := [d1, d2] }
  | _ => none }
def GitKeepsWrongFalsely : Prop := gitKeepsRow.holds Try.pinned (OpenSpec.ofChange gitKeepsWrong)

/-- 'tenonlaw19.GitTells': WHATEVER THE INPUT: true; the input reads as it did. -/
def gitTellsSpec : ChangeSpec := { name := "gitTells", fn := fun _ => fun
  | [d1, d2] => { results := [.lit (.bool true)], args := [d1, d2] }
  | _ => none }
def gitTellsRow : OpenClaim := { program := "ytkgbfnlnpfedkaa", sum := "8136fb6f992832c8d71708ce8020611b36d185be2d30d5f2dcf8de08efe4f787", func := "tenon/tenonlaw19.GitTells", spec := "gitTells", unfollowed := true, recurses := true, apart := false }
def GitTellsSaid : Prop := gitTellsRow.holds Try.pinned (OpenSpec.ofChange gitTellsSpec)

/-- ITS FALSE NEIGHBOUR: 'it returns false'. Refute it at one input. -/
def gitTellsWrong : ChangeSpec := { name := "gitTells", fn := fun _ => fun
  | [d1, d2] => { results := [.lit (.bool false)], args := [d1, d2] }
  | _ => none }
def GitTellsWrongFalsely : Prop := gitTellsRow.holds Try.pinned (OpenSpec.ofChange gitTellsWrong)

/-- 'tenonlaw19.GitPlays': WHATEVER THE INPUT: true; the input reads as it did. -/
def gitPlaysSpec : ChangeSpec := { name := "gitPlays", fn := fun _ => fun
  | [d1, d2] => { results := [.lit (.bool true)], args := [d1, d2] }
  | _ => none }
def gitPlaysRow : OpenClaim := { program := "ytkgbfnlnpfedkaa", sum := "8136fb6f992832c8d71708ce8020611b36d185be2d30d5f2dcf8de08efe4f787", func := "tenon/tenonlaw19.GitPlays", spec := "gitPlays", unfollowed := true, recurses := true, apart := false }
def GitPlaysSaid : Prop := gitPlaysRow.holds Try.pinned (OpenSpec.ofChange gitPlaysSpec)

/-- ITS FALSE NEIGHBOUR: 'it returns false'. Refute it at one input. -/
def gitPlaysWrong : ChangeSpec := { name := "gitPlays", fn := fun _ => fun
  | [d1, d2] => { results := [.lit (.bool false)], args := [d1, d2] }
  | _ => none }
def GitPlaysWrongFalsely : Prop := gitPlaysRow.holds Try.pinned (OpenSpec.ofChange gitPlaysWrong)

/-- 'tenonlaw19.GitNil': WHATEVER THE INPUT: true; the input reads as it did. -/
def gitNilSpec : ChangeSpec := { name := "gitNil", fn := fun _ => fun
  | [d1, d2, d3] => { results := [.lit (.bool true)], args := [d1, d2, d3] }
  | _ => none }
def gitNilRow : OpenClaim := { program := "ytkgbfnlnpfedkaa", sum := "8136fb6f992832c8d71708ce8020611b36d185be2d30d5f2dcf8de08efe4f787", func := "tenon/tenonlaw19.GitNil", spec := "gitNil", unfollowed := true, recurses := true, apart := false }
def GitNilSaid : Prop := gitNilRow.holds Try.pinned (OpenSpec.ofChange gitNilSpec)

/-- ITS FALSE NEIGHBOUR: 'it returns false'. Refute it at one input. -/
def gitNilWrong : ChangeSpec := { name := "gitNil", fn := fun _ => fun
  | [d1, d2, d3] => { results := [.lit (.bool false)], args := [d1, d2, d3] }
  | _ => none }
def GitNilWrongFalsely : Prop := gitNilRow.holds Try.pinned (OpenSpec.ofChange gitNilWrong)

/- THE SECOND FORM. 'bulk': how many values and letters a reading holds, each counted each time it is reached (what is shared counts as often as it is met; a slice's spare places count too). A statement '..UptoSaid' is the law's where the arguments, and the package variables that the reading takes, are together of bulk at most 1048576: NARROWER than '..Said'. Prove '..Said' where nothing that the law and all that it calls make is longer than what came in: it says more and counts as full. Else prove '..UptoSaid'. A law counts once. -/
mutual
def uptoBulk {H : Type} : DataW H → Nat
  | .lit (.string bytes) => bytes.length + 1
  | .lit _ => 1
  | .nil => 1
  | .ptr d => uptoBulk d + 1
  | .slice elems spare => uptoBulkAll elems + uptoBulkAll spare + 1
  | .agg parts => uptoBulkAll parts + 1
  | .iface _ d => uptoBulk d + 1
  | .map entries => uptoBulkEntries entries + 1
  | .held _ => 1
def uptoBulkAll {H : Type} : List (DataW H) → Nat
  | [] => 0
  | d :: r => uptoBulk d + uptoBulkAll r
def uptoBulkEntries {H : Type} : List (Lit × DataW H) → Nat
  | [] => 0
  | x :: r => uptoBulkEntry x + uptoBulkEntries r
def uptoBulkEntry {H : Type} : Lit × DataW H → Nat
  | (.string bytes, d) => bytes.length + uptoBulk d + 1
  | (_, d) => uptoBulk d + 1
 end
def uptoSmall : (H : Type) → List (DataW H) → Bool := fun _ ds => decide (uptoBulkAll ds ≤ 1048576)
def OpenSpec.upto (s : _root_.Go.ChangeSpec) : _root_.Go.OpenSpec := { _root_.Go.OpenSpec.ofChange s with cond := some uptoSmall }

/-- 'tenonlaw19.GitKeeps', WHERE WHAT IT READS IS OF BULK AT MOST 1048576: true; the input reads as it did. -/
def gitKeepsUptoRow : OpenClaim := { program := "ytkgbfnlnpfedkaa", sum := "8136fb6f992832c8d71708ce8020611b36d185be2d30d5f2dcf8de08efe4f787", func := "tenon/tenonlaw19.GitKeeps", spec := "gitKeeps", unfollowed := true, recurses := true, apart := false, narrowed := true }
def GitKeepsUptoSaid : Prop := gitKeepsUptoRow.holds Try.pinned (OpenSpec.upto gitKeepsSpec)

/-- 'tenonlaw19.GitTells', WHERE WHAT IT READS IS OF BULK AT MOST 1048576: true; the input reads as it did. -/
def gitTellsUptoRow : OpenClaim := { program := "ytkgbfnlnpfedkaa", sum := "8136fb6f992832c8d71708ce8020611b36d185be2d30d5f2dcf8de08efe4f787", func := "tenon/tenonlaw19.GitTells", spec := "gitTells", unfollowed := true, recurses := true, apart := false, narrowed := true }
def GitTellsUptoSaid : Prop := gitTellsUptoRow.holds Try.pinned (OpenSpec.upto gitTellsSpec)

/-- 'tenonlaw19.GitPlays', WHERE WHAT IT READS IS OF BULK AT MOST 1048576: true; the input reads as it did. -/
def gitPlaysUptoRow : OpenClaim := { program := "ytkgbfnlnpfedkaa", sum := "8136fb6f992832c8d71708ce8020611b36d185be2d30d5f2dcf8de08efe4f787", func := "tenon/tenonlaw19.GitPlays", spec := "gitPlays", unfollowed := true, recurses := true, apart := false, narrowed := true }
def GitPlaysUptoSaid : Prop := gitPlaysUptoRow.holds Try.pinned (OpenSpec.upto gitPlaysSpec)

/-- 'tenonlaw19.GitNil', WHERE WHAT IT READS IS OF BULK AT MOST 1048576: true; the input reads as it did. -/
def gitNilUptoRow : OpenClaim := { program := "ytkgbfnlnpfedkaa", sum := "8136fb6f992832c8d71708ce8020611b36d185be2d30d5f2dcf8de08efe4f787", func := "tenon/tenonlaw19.GitNil", spec := "gitNil", unfollowed := true, recurses := true, apart := false, narrowed := true }
def GitNilUptoSaid : Prop := gitNilUptoRow.holds Try.pinned (OpenSpec.upto gitNilSpec)

end Rows
end Go.Proofs.Ytkgbfnlnpfedkaa
