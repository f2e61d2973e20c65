/-
  No cell of these rows narrows 'for every input' (looked for: loops, veiled, ifaces, maps, wideKeys, modest, calm, conditions, laid).
  DERIVED. THE GIVEN ROWS OF THIS SEAT. 5 by the template 'for every input the law returns true; each argument reads behind the call as it read before'; 0 by the template 'total and deterministic' (their statements: YtjjnbcdcppnllaaTotals.lean).
  GIVEN WITH THE SEED: the statements are not yours to turn. If you find one false, say at which input.
  Laid BY PROGRAM, IN A SANDBOX (cutbox-rows.mjs): the forced cells as the released guide's own fill.sh prints them over the translation f169b58d2c86ebcd… (all of the seat's roots in one cut). By AI agents, Wed Nov 11 2026. No macro, syntax, notation, axiom, sorry.
-/
import Derived.Test.YtjjnbcdcppnllaaChecked
import GoSem.Claim
import GoSem.ClaimJoined
import GoSem.ClaimMapViews
import Derived.JoinedTies
import Derived.KernelRfl
namespace Go.Proofs.Ytjjnbcdcppnllaa
/- THE CELL 'sum', in the pinned program and in every row, IS THE sha256 OF THE DUMP (.gsa) THAT YtjjnbcdcppnllaaProg.lean LOADS. Nothing in Lean hashes anything: it is a label: what it is worth is what the hold of that sum in a sandbox is worth. -/
noncomputable def Try.pinned : Pinned := { name := "ytjjnbcdcppnllaa", sum := "f169b58d2c86ebcd541cc145077aa3207731d3081e2f01f19a4a26ffd5f95edb", checked := Try.checked }
namespace Rows
def none {H : Type} : Left H := { results := [], args := [] }

/-- 'tenonlaw23.NetOnce': WHATEVER THE INPUT: true; the input reads as it did. -/
def netOnceSpec : ChangeSpec := { name := "netOnce", fn := fun _ => fun
  | [d] => { results := [.lit (.bool true)], args := [d] }
  | _ => none }
def netOnceRow : OpenClaim := { program := "ytjjnbcdcppnllaa", sum := "f169b58d2c86ebcd541cc145077aa3207731d3081e2f01f19a4a26ffd5f95edb", func := "tenon/tenonlaw23.NetOnce", spec := "netOnce", unfollowed := true, recurses := true, plainKeys := false, apart := false }
def NetOnceSaid : Prop := netOnceRow.holds Try.pinned (OpenSpec.ofChange netOnceSpec)

/-- ITS FALSE NEIGHBOUR: 'it returns false'. Refute it at one input. -/
def netOnceWrong : ChangeSpec := { name := "netOnce", fn := fun _ => fun
  | [d] => { results := [.lit (.bool false)], args := [d] }
  | _ => none }
def NetOnceWrongFalsely : Prop := netOnceRow.holds Try.pinned (OpenSpec.ofChange netOnceWrong)

/-- 'tenonlaw23.NetLost': WHATEVER THE INPUT: true; the input reads as it did. -/
def netLostSpec : ChangeSpec := { name := "netLost", fn := fun _ => fun
  | [d] => { results := [.lit (.bool true)], args := [d] }
  | _ => none }
def netLostRow : OpenClaim := { program := "ytjjnbcdcppnllaa", sum := "f169b58d2c86ebcd541cc145077aa3207731d3081e2f01f19a4a26ffd5f95edb", func := "tenon/tenonlaw23.NetLost", spec := "netLost", unfollowed := true, recurses := true, plainKeys := false, apart := false }
def NetLostSaid : Prop := netLostRow.holds Try.pinned (OpenSpec.ofChange netLostSpec)

/-- ITS FALSE NEIGHBOUR: 'it returns false'. Refute it at one input. -/
def netLostWrong : ChangeSpec := { name := "netLost", fn := fun _ => fun
  | [d] => { results := [.lit (.bool false)], args := [d] }
  | _ => none }
def NetLostWrongFalsely : Prop := netLostRow.holds Try.pinned (OpenSpec.ofChange netLostWrong)

/-- 'tenonlaw23.NetPlays': WHATEVER THE INPUT: true; the input reads as it did. -/
def netPlaysSpec : ChangeSpec := { name := "netPlays", fn := fun _ => fun
  | [d1, d2] => { results := [.lit (.bool true)], args := [d1, d2] }
  | _ => none }
def netPlaysRow : OpenClaim := { program := "ytjjnbcdcppnllaa", sum := "f169b58d2c86ebcd541cc145077aa3207731d3081e2f01f19a4a26ffd5f95edb", func := "tenon/tenonlaw23.NetPlays", spec := "netPlays", unfollowed := true, recurses := true, plainKeys := false, apart := false }
def NetPlaysSaid : Prop := netPlaysRow.holds Try.pinned (OpenSpec.ofChange netPlaysSpec)

/-- ITS FALSE NEIGHBOUR: 'it returns false'. Refute it at one input. -/
def netPlaysWrong : ChangeSpec := { name := "netPlays", fn := fun _ => fun
  | [d1, d2] => { results := [.lit (.bool false)], args := [d1, d2] }
  | _ => none }
def NetPlaysWrongFalsely : Prop := netPlaysRow.holds Try.pinned (OpenSpec.ofChange netPlaysWrong)

/-- 'tenonlaw23.NetTells': WHATEVER THE INPUT: true; the input reads as it did. -/
def netTellsSpec : ChangeSpec := { name := "netTells", fn := fun _ => fun
  | [d1, d2] => { results := [.lit (.bool true)], args := [d1, d2] }
  | _ => none }
def netTellsRow : OpenClaim := { program := "ytjjnbcdcppnllaa", sum := "f169b58d2c86ebcd541cc145077aa3207731d3081e2f01f19a4a26ffd5f95edb", func := "tenon/tenonlaw23.NetTells", spec := "netTells", unfollowed := true, recurses := true, plainKeys := false, apart := false }
def NetTellsSaid : Prop := netTellsRow.holds Try.pinned (OpenSpec.ofChange netTellsSpec)

/-- ITS FALSE NEIGHBOUR: 'it returns false'. Refute it at one input. -/
def netTellsWrong : ChangeSpec := { name := "netTells", fn := fun _ => fun
  | [d1, d2] => { results := [.lit (.bool false)], args := [d1, d2] }
  | _ => none }
def NetTellsWrongFalsely : Prop := netTellsRow.holds Try.pinned (OpenSpec.ofChange netTellsWrong)

/-- 'tenonlaw23.NetNil': WHATEVER THE INPUT: true; the input reads as it did. -/
def netNilSpec : ChangeSpec := { name := "netNil", fn := fun _ => fun
  | [d1, d2] => { results := [.lit (.bool true)], args := [d1, d2] }
  | _ => none }
def netNilRow : OpenClaim := { program := "ytjjnbcdcppnllaa", sum := "f169b58d2c86ebcd541cc145077aa3207731d3081e2f01f19a4a26ffd5f95edb", func := "tenon/tenonlaw23.NetNil", spec := "netNil", unfollowed := true, recurses := true, plainKeys := false, apart := false }
def NetNilSaid : Prop := netNilRow.holds Try.pinned (OpenSpec.ofChange netNilSpec)

/-- ITS FALSE NEIGHBOUR: 'it returns false'. Refute it at one input. -/
def netNilWrong : ChangeSpec := { name := "netNil", fn := fun _ => fun
  | [d1, d2] => { results := [.lit (.bool false)], args := [d1, d2] }
  | _ => none }
def NetNilWrongFalsely : Prop := netNilRow.holds Try.pinned (OpenSpec.ofChange netNilWrong)

/- THE SECOND FORM. 'bulk': how many values and letters a reading holds, each counted each time it is reached (what is shared counts as often as it is met; a slice's spare places count too). A statement '..UptoSaid' is the law's where the arguments, and the package variables that the reading takes, are together of bulk at most 1048576: NARROWER than '..Said'. Prove '..Said' where nothing that the law and all that it calls make is longer than what came in: it says more and counts as full. Else prove '..UptoSaid'. A law counts once. -/
mutual
def uptoBulk {H : Type} : DataW H → Nat
  | .lit (.string bytes) => bytes.length + 1
  | .lit _ => 1
  | .nil => 1
  | .ptr d => uptoBulk d + 1
  | .slice elems spare => uptoBulkAll elems + uptoBulkAll spare + 1
  | .agg parts => uptoBulkAll parts + 1
  | .iface _ d => uptoBulk d + 1
  | .map entries => uptoBulkEntries entries + 1
  | .held _ => 1
def uptoBulkAll {H : Type} : List (DataW H) → Nat
  | [] => 0
  | d :: r => uptoBulk d + uptoBulkAll r
def uptoBulkEntries {H : Type} : List (Lit × DataW H) → Nat
  | [] => 0
  | x :: r => uptoBulkEntry x + uptoBulkEntries r
def uptoBulkEntry {H : Type} : Lit × DataW H → Nat
  | (.string bytes, d) => bytes.length + uptoBulk d + 1
  | (_, d) => uptoBulk d + 1
 end
def uptoSmall : (H : Type) → List (DataW H) → Bool := fun _ ds => decide (uptoBulkAll ds ≤ 1048576)
def OpenSpec.upto (s : _root_.Go.ChangeSpec) : _root_.Go.OpenSpec := { _root_.Go.OpenSpec.ofChange s with cond := some uptoSmall }

/-- 'tenonlaw23.NetOnce', WHERE WHAT IT READS IS OF BULK AT MOST 1048576: true; the input reads as it did. -/
def netOnceUptoRow : OpenClaim := { program := "ytjjnbcdcppnllaa", sum := "f169b58d2c86ebcd541cc145077aa3207731d3081e2f01f19a4a26ffd5f95edb", func := "tenon/tenonlaw23.NetOnce", spec := "netOnce", unfollowed := true, recurses := true, plainKeys := false, apart := false, narrowed := true }
def NetOnceUptoSaid : Prop := netOnceUptoRow.holds Try.pinned (OpenSpec.upto netOnceSpec)

/-- 'tenonlaw23.NetLost', WHERE WHAT IT READS IS OF BULK AT MOST 1048576: true; the input reads as it did. -/
def netLostUptoRow : OpenClaim := { program := "ytjjnbcdcppnllaa", sum := "f169b58d2c86ebcd541cc145077aa3207731d3081e2f01f19a4a26ffd5f95edb", func := "tenon/tenonlaw23.NetLost", spec := "netLost", unfollowed := true, recurses := true, plainKeys := false, apart := false, narrowed := true }
def NetLostUptoSaid : Prop := netLostUptoRow.holds Try.pinned (OpenSpec.upto netLostSpec)

/-- 'tenonlaw23.NetPlays', WHERE WHAT IT READS IS OF BULK AT MOST 1048576: true; the input reads as it did. -/
def netPlaysUptoRow : OpenClaim := { program := "ytjjnbcdcppnllaa", sum := "f169b58d2c86ebcd541cc145077aa3207731d3081e2f01f19a4a26ffd5f95edb", func := "tenon/tenonlaw23.NetPlays", spec := "netPlays", unfollowed := true, recurses := true, plainKeys := false, apart := false, narrowed := true }
def NetPlaysUptoSaid : Prop := netPlaysUptoRow.holds Try.pinned (OpenSpec.upto netPlaysSpec)

/-- 'tenonlaw23.NetTells', WHERE WHAT IT READS IS OF BULK AT MOST 1048576: true; the input reads as it did. -/
def netTellsUptoRow : OpenClaim := { program := "ytjjnbcdcppnllaa", sum := "f169b58d2c86ebcd541cc145077aa3207731d3081e2f01f19a4a26ffd5f95edb", func := "tenon/tenonlaw23.NetTells", spec := "netTells", unfollowed := true, recurses := true, plainKeys := false, apart := false, narrowed := true }
def NetTellsUptoSaid : Prop := netTellsUptoRow.holds Try.pinned (OpenSpec.upto netTellsSpec)

/-- 'tenonlaw23.NetNil', WHERE WHAT IT READS IS OF BULK AT MOST 1048576: true; the input reads as it did. -/
def netNilUptoRow : OpenClaim := { program := "ytjjnbcdcppnllaa", sum := "f169b58d2c86ebcd541cc145077aa3207731d3081e2f01f19a4a26ffd5f95edb", func := "tenon/tenonlaw23.NetNil", spec := "netNil", unfollowed := true, recurses := true, plainKeys := false, apart := false, narrowed := true }
def NetNilUptoSaid : Prop := netNilUptoRow.holds Try.pinned (OpenSpec.upto netNilSpec)

end Rows
end Go.Proofs.Ytjjnbcdcppnllaa
