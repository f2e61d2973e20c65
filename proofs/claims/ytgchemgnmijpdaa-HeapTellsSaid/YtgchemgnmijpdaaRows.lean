/-
  No cell of these rows narrows 'for every input' (looked for: loops, veiled, ifaces, maps, wideKeys, modest, calm, conditions, laid).
  DERIVED. THE GIVEN ROWS OF THIS SEAT. 7 by the template 'for every input the law returns true; each argument reads behind the call as it read before'; 0 by the template 'total and deterministic' (their statements: YtgchemgnmijpdaaTotals.lean).
  GIVEN WITH THE SEED: the statements are not yours to turn. If you find one false, say at which input.
  Laid BY PROGRAM, IN A SANDBOX (cutbox-rows.mjs): the forced cells as the released guide's own fill.sh prints them over the translation d8672c2b5a9687be… (all of the seat's roots in one cut). By AI agents, Wed Nov 11 2026. No macro, syntax, notation, axiom, sorry.
-/
import Derived.Test.YtgchemgnmijpdaaChecked
import GoSem.Claim
import GoSem.ClaimJoined
import GoSem.ClaimMapViews
import Derived.JoinedTies
import Derived.KernelRfl
namespace Go.Proofs.Ytgchemgnmijpdaa
/- THE CELL 'sum', in the pinned program and in every row, IS THE sha256 OF THE DUMP (.gsa) THAT YtgchemgnmijpdaaProg.lean LOADS. Nothing in Lean hashes anything: it is a label: what it is worth is what the hold of that sum in a sandbox is worth. -/
noncomputable def Try.pinned : Pinned := { name := "ytgchemgnmijpdaa", sum := "d8672c2b5a9687bef66aabb04eb8a247161449577a21a9013db39c399d85ed03", checked := Try.checked }
namespace Rows
def none {H : Type} : Left H := { results := [], args := [] }

/-- 'tenonlaw11.HeapChain': WHATEVER THE INPUT: true; the input reads as it did. -/
def heapChainSpec : ChangeSpec := { name := "heapChain", fn := fun _ => fun
  | [d1, d2] => { results := [.lit (.bool true)], args := [d1, d2] }
  | _ => none }
def heapChainRow : OpenClaim := { program := "ytgchemgnmijpdaa", sum := "d8672c2b5a9687bef66aabb04eb8a247161449577a21a9013db39c399d85ed03", func := "tenon/tenonlaw11.HeapChain", spec := "heapChain", unfollowed := true, recurses := true, apart := false }
def HeapChainSaid : Prop := heapChainRow.holds Try.pinned (OpenSpec.ofChange heapChainSpec)

/-- ITS FALSE NEIGHBOUR: 'it returns false'. Refute it at one input. -/
def heapChainWrong : ChangeSpec := { name := "heapChain", fn := fun _ => fun
  | [d1, d2] => { results := [.lit (.bool false)], args := [d1, d2] }
  | _ => none }
def HeapChainWrongFalsely : Prop := heapChainRow.holds Try.pinned (OpenSpec.ofChange heapChainWrong)

/-- 'tenonlaw11.HeapInners': WHATEVER THE INPUT: true; the input reads as it did. -/
def heapInnersSpec : ChangeSpec := { name := "heapInners", fn := fun _ => fun
  | [d1, d2] => { results := [.lit (.bool true)], args := [d1, d2] }
  | _ => none }
def heapInnersRow : OpenClaim := { program := "ytgchemgnmijpdaa", sum := "d8672c2b5a9687bef66aabb04eb8a247161449577a21a9013db39c399d85ed03", func := "tenon/tenonlaw11.HeapInners", spec := "heapInners", unfollowed := true, recurses := true, apart := false }
def HeapInnersSaid : Prop := heapInnersRow.holds Try.pinned (OpenSpec.ofChange heapInnersSpec)

/-- ITS FALSE NEIGHBOUR: 'it returns false'. Refute it at one input. -/
def heapInnersWrong : ChangeSpec := { name := "heapInners", fn := fun _ => fun
  | [d1, d2] => { results := [.lit (.bool false)], args := [d1, d2] }
  | _ => none }
def HeapInnersWrongFalsely : Prop := heapInnersRow.holds Try.pinned (OpenSpec.ofChange heapInnersWrong)

/-- 'tenonlaw11.HeapForeign': WHATEVER THE INPUT: true; the input reads as it did. -/
def heapForeignSpec : ChangeSpec := { name := "heapForeign", fn := fun _ => fun
  | [d] => { results := [.lit (.bool true)], args := [d] }
  | _ => none }
def heapForeignRow : OpenClaim := { program := "ytgchemgnmijpdaa", sum := "d8672c2b5a9687bef66aabb04eb8a247161449577a21a9013db39c399d85ed03", func := "tenon/tenonlaw11.HeapForeign", spec := "heapForeign", unfollowed := true, recurses := true, apart := false }
def HeapForeignSaid : Prop := heapForeignRow.holds Try.pinned (OpenSpec.ofChange heapForeignSpec)

/-- ITS FALSE NEIGHBOUR: 'it returns false'. Refute it at one input. -/
def heapForeignWrong : ChangeSpec := { name := "heapForeign", fn := fun _ => fun
  | [d] => { results := [.lit (.bool false)], args := [d] }
  | _ => none }
def HeapForeignWrongFalsely : Prop := heapForeignRow.holds Try.pinned (OpenSpec.ofChange heapForeignWrong)

/-- 'tenonlaw11.HeapCounts': WHATEVER THE INPUT: true; the input reads as it did. -/
def heapCountsSpec : ChangeSpec := { name := "heapCounts", fn := fun _ => fun
  | [d1, d2] => { results := [.lit (.bool true)], args := [d1, d2] }
  | _ => none }
def heapCountsRow : OpenClaim := { program := "ytgchemgnmijpdaa", sum := "d8672c2b5a9687bef66aabb04eb8a247161449577a21a9013db39c399d85ed03", func := "tenon/tenonlaw11.HeapCounts", spec := "heapCounts", unfollowed := true, recurses := true, apart := false }
def HeapCountsSaid : Prop := heapCountsRow.holds Try.pinned (OpenSpec.ofChange heapCountsSpec)

/-- ITS FALSE NEIGHBOUR: 'it returns false'. Refute it at one input. -/
def heapCountsWrong : ChangeSpec := { name := "heapCounts", fn := fun _ => fun
  | [d1, d2] => { results := [.lit (.bool false)], args := [d1, d2] }
  | _ => none }
def HeapCountsWrongFalsely : Prop := heapCountsRow.holds Try.pinned (OpenSpec.ofChange heapCountsWrong)

/-- 'tenonlaw11.HeapPlays': WHATEVER THE INPUT: true; the input reads as it did. -/
def heapPlaysSpec : ChangeSpec := { name := "heapPlays", fn := fun _ => fun
  | [d1, d2, d3] => { results := [.lit (.bool true)], args := [d1, d2, d3] }
  | _ => none }
def heapPlaysRow : OpenClaim := { program := "ytgchemgnmijpdaa", sum := "d8672c2b5a9687bef66aabb04eb8a247161449577a21a9013db39c399d85ed03", func := "tenon/tenonlaw11.HeapPlays", spec := "heapPlays", unfollowed := true, recurses := true, apart := false }
def HeapPlaysSaid : Prop := heapPlaysRow.holds Try.pinned (OpenSpec.ofChange heapPlaysSpec)

/-- ITS FALSE NEIGHBOUR: 'it returns false'. Refute it at one input. -/
def heapPlaysWrong : ChangeSpec := { name := "heapPlays", fn := fun _ => fun
  | [d1, d2, d3] => { results := [.lit (.bool false)], args := [d1, d2, d3] }
  | _ => none }
def HeapPlaysWrongFalsely : Prop := heapPlaysRow.holds Try.pinned (OpenSpec.ofChange heapPlaysWrong)

/-- 'tenonlaw11.HeapTells': WHATEVER THE INPUT: true; the input reads as it did. -/
def heapTellsSpec : ChangeSpec := { name := "heapTells", fn := fun _ => fun
  | [d1, d2, d3] => { results := [.lit (.bool true)], args := [d1, d2, d3] }
  | _ => none }
def heapTellsRow : OpenClaim := { program := "ytgchemgnmijpdaa", sum := "d8672c2b5a9687bef66aabb04eb8a247161449577a21a9013db39c399d85ed03", func := "tenon/tenonlaw11.HeapTells", spec := "heapTells", unfollowed := true, recurses := true, apart := false }
def HeapTellsSaid : Prop := heapTellsRow.holds Try.pinned (OpenSpec.ofChange heapTellsSpec)

/-- ITS FALSE NEIGHBOUR: 'it returns false'. Refute it at one input. -/
def heapTellsWrong : ChangeSpec := { name := "heapTells", fn := fun _ => fun
  | [d1, d2, d3] => { results := [.lit (.bool false)], args := [d1, d2, d3] }
  | _ => none }
def HeapTellsWrongFalsely : Prop := heapTellsRow.holds Try.pinned (OpenSpec.ofChange heapTellsWrong)

/-- 'tenonlaw11.HeapNil': WHATEVER THE INPUT: true; the input reads as it did. -/
def heapNilSpec : ChangeSpec := { name := "heapNil", fn := fun _ => fun
  | [d1, d2, d3] => { results := [.lit (.bool true)], args := [d1, d2, d3] }
  | _ => none }
def heapNilRow : OpenClaim := { program := "ytgchemgnmijpdaa", sum := "d8672c2b5a9687bef66aabb04eb8a247161449577a21a9013db39c399d85ed03", func := "tenon/tenonlaw11.HeapNil", spec := "heapNil", unfollowed := true, recurses := true, apart := false }
def HeapNilSaid : Prop := heapNilRow.holds Try.pinned (OpenSpec.ofChange heapNilSpec)

/-- ITS FALSE NEIGHBOUR: 'it returns false'. Refute it at one input. -/
def heapNilWrong : ChangeSpec := { name := "heapNil", fn := fun _ => fun
  | [d1, d2, d3] => { results := [.lit (.bool false)], args := [d1, d2, d3] }
  | _ => none }
def HeapNilWrongFalsely : Prop := heapNilRow.holds Try.pinned (OpenSpec.ofChange heapNilWrong)

/- THE SECOND FORM. 'bulk': how many values and letters a reading holds, each counted each time it is reached (what is shared counts as often as it is met; a slice's spare places count too). A statement '..UptoSaid' is the law's where the arguments, and the package variables that the reading takes, are together of bulk at most 1048576: NARROWER than '..Said'. Prove '..Said' where nothing that the law and all that it calls make is longer than what came in: it says more and counts as full. Else prove '..UptoSaid'. A law counts once. -/
mutual
def uptoBulk {H : Type} : DataW H → Nat
  | .lit (.string bytes) => bytes.length + 1
  | .lit _ => 1
  | .nil => 1
  | .ptr d => uptoBulk d + 1
  | .slice elems spare => uptoBulkAll elems + uptoBulkAll spare + 1
  | .agg parts => uptoBulkAll parts + 1
  | .iface _ d => uptoBulk d + 1
  | .map entries => uptoBulkEntries entries + 1
  | .held _ => 1
def uptoBulkAll {H : Type} : List (DataW H) → Nat
  | [] => 0
  | d :: r => uptoBulk d + uptoBulkAll r
def uptoBulkEntries {H : Type} : List (Lit × DataW H) → Nat
  | [] => 0
  | x :: r => uptoBulkEntry x + uptoBulkEntries r
def uptoBulkEntry {H : Type} : Lit × DataW H → Nat
  | (.string bytes, d) => bytes.length + uptoBulk d + 1
  | (_, d) => uptoBulk d + 1
 end
def uptoSmall : (H : Type) → List (DataW H) → Bool := fun _ ds => decide (uptoBulkAll ds ≤ 1048576)
def OpenSpec.upto (s : _root_.Go.ChangeSpec) : _root_.Go.OpenSpec := { _root_.Go.OpenSpec.ofChange s with cond := some uptoSmall }

/-- 'tenonlaw11.HeapChain', WHERE WHAT IT READS IS OF BULK AT MOST 1048576: true; the input reads as it did. -/
def heapChainUptoRow : OpenClaim := { program := "ytgchemgnmijpdaa", sum := "d8672c2b5a9687bef66aabb04eb8a247161449577a21a9013db39c399d85ed03", func := "tenon/tenonlaw11.HeapChain", spec := "heapChain", unfollowed := true, recurses := true, apart := false, narrowed := true }
def HeapChainUptoSaid : Prop := heapChainUptoRow.holds Try.pinned (OpenSpec.upto heapChainSpec)

/-- 'tenonlaw11.HeapInners', WHERE WHAT IT READS IS OF BULK AT MOST 1048576: true; the input reads as it did. -/
def heapInnersUptoRow : OpenClaim := { program := "ytgchemgnmijpdaa", sum := "d8672c2b5a9687bef66aabb04eb8a247161449577a21a9013db39c399d85ed03", func := "tenon/tenonlaw11.HeapInners", spec := "heapInners", unfollowed := true, recurses := true, apart := false, narrowed := true }
def HeapInnersUptoSaid : Prop := heapInnersUptoRow.holds Try.pinned (OpenSpec.upto heapInnersSpec)

/-- 'tenonlaw11.HeapForeign', WHERE WHAT IT READS IS OF BULK AT MOST 1048576: true; the input reads as it did. -/
def heapForeignUptoRow : OpenClaim := { program := "ytgchemgnmijpdaa", sum := "d8672c2b5a9687bef66aabb04eb8a247161449577a21a9013db39c399d85ed03", func := "tenon/tenonlaw11.HeapForeign", spec := "heapForeign", unfollowed := true, recurses := true, apart := false, narrowed := true }
def HeapForeignUptoSaid : Prop := heapForeignUptoRow.holds Try.pinned (OpenSpec.upto heapForeignSpec)

/-- 'tenonlaw11.HeapCounts', WHERE WHAT IT READS IS OF BULK AT MOST 1048576: true; the input reads as it did. -/
def heapCountsUptoRow : OpenClaim := { program := "ytgchemgnmijpdaa", sum := "d8672c2b5a9687bef66aabb04eb8a247161449577a21a9013db39c399d85ed03", func := "tenon/tenonlaw11.HeapCounts", spec := "heapCounts", unfollowed := true, recurses := true, apart := false, narrowed := true }
def HeapCountsUptoSaid : Prop := heapCountsUptoRow.holds Try.pinned (OpenSpec.upto heapCountsSpec)

/-- 'tenonlaw11.HeapPlays', WHERE WHAT IT READS IS OF BULK AT MOST 1048576: true; the input reads as it did. -/
def heapPlaysUptoRow : OpenClaim := { program := "ytgchemgnmijpdaa", sum := "d8672c2b5a9687bef66aabb04eb8a247161449577a21a9013db39c399d85ed03", func := "tenon/tenonlaw11.HeapPlays", spec := "heapPlays", unfollowed := true, recurses := true, apart := false, narrowed := true }
def HeapPlaysUptoSaid : Prop := heapPlaysUptoRow.holds Try.pinned (OpenSpec.upto heapPlaysSpec)

/-- 'tenonlaw11.HeapTells', WHERE WHAT IT READS IS OF BULK AT MOST 1048576: true; the input reads as it did. -/
def heapTellsUptoRow : OpenClaim := { program := "ytgchemgnmijpdaa", sum := "d8672c2b5a9687bef66aabb04eb8a247161449577a21a9013db39c399d85ed03", func := "tenon/tenonlaw11.HeapTells", spec := "heapTells", unfollowed := true, recurses := true, apart := false, narrowed := true }
def HeapTellsUptoSaid : Prop := heapTellsUptoRow.holds Try.pinned (OpenSpec.upto heapTellsSpec)

/-- 'tenonlaw11.HeapNil', WHERE WHAT IT READS IS OF BULK AT MOST 1048576: true; the input reads as it did. -/
def heapNilUptoRow : OpenClaim := { program := "ytgchemgnmijpdaa", sum := "d8672c2b5a9687bef66aabb04eb8a247161449577a21a9013db39c399d85ed03", func := "tenon/tenonlaw11.HeapNil", spec := "heapNil", unfollowed := true, recurses := true, apart := false, narrowed := true }
def HeapNilUptoSaid : Prop := heapNilUptoRow.holds Try.pinned (OpenSpec.upto heapNilSpec)

end Rows
end Go.Proofs.Ytgchemgnmijpdaa
