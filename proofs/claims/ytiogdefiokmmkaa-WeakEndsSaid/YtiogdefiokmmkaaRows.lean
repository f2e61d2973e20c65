/-
  No cell of these rows narrows 'for every input' (looked for: loops, veiled, ifaces, maps, wideKeys, modest, calm, conditions, laid).
  DERIVED. THE GIVEN ROWS OF THIS SEAT. 5 by the template 'for every input the law returns true; each argument reads behind the call as it read before'; 0 by the template 'total and deterministic' (their statements: YtiogdefiokmmkaaTotals.lean).
  GIVEN WITH THE SEED: the statements are not yours to turn. If you find one false, say at which input.
  Laid BY PROGRAM, IN A SANDBOX (cutbox-rows.mjs): the forced cells as the released guide's own fill.sh prints them over the translation ea40271366d99976… (all of the seat's roots in one cut). By AI agents, Wed Nov 11 2026. No macro, syntax, notation, axiom, sorry.
-/
import Derived.Test.YtiogdefiokmmkaaChecked
import GoSem.Claim
import GoSem.ClaimJoined
import GoSem.ClaimMapViews
import Derived.JoinedTies
import Derived.KernelRfl
namespace Go.Proofs.Ytiogdefiokmmkaa
/- THE CELL 'sum', in the pinned program and in every row, IS THE sha256 OF THE DUMP (.gsa) THAT YtiogdefiokmmkaaProg.lean LOADS. Nothing in Lean hashes anything: it is a label: what it is worth is what the hold of that sum in a sandbox is worth. -/
noncomputable def Try.pinned : Pinned := { name := "ytiogdefiokmmkaa", sum := "ea40271366d999766a0a0b464ef7e7b9471d85649a00b3545bc95efdeed26dd8", checked := Try.checked }
namespace Rows
def none {H : Type} : Left H := { results := [], args := [] }

/-- 'tenonlaw12.WeakPlays': WHATEVER THE INPUT: true; the input reads as it did. -/
def weakPlaysSpec : ChangeSpec := { name := "weakPlays", fn := fun _ => fun
  | [d1, d2] => { results := [.lit (.bool true)], args := [d1, d2] }
  | _ => none }
def weakPlaysRow : OpenClaim := { program := "ytiogdefiokmmkaa", sum := "ea40271366d999766a0a0b464ef7e7b9471d85649a00b3545bc95efdeed26dd8", func := "tenon/tenonlaw12.WeakPlays", spec := "weakPlays", apart := false }
def WeakPlaysSaid : Prop := weakPlaysRow.holds Try.pinned (OpenSpec.ofChange weakPlaysSpec)

/-- ITS FALSE NEIGHBOUR: 'it returns false'. Refute it at one input. -/
def weakPlaysWrong : ChangeSpec := { name := "weakPlays", fn := fun _ => fun
  | [d1, d2] => { results := [.lit (.bool false)], args := [d1, d2] }
  | _ => none }
def WeakPlaysWrongFalsely : Prop := weakPlaysRow.holds Try.pinned (OpenSpec.ofChange weakPlaysWrong)

/-- 'tenonlaw12.WeakTrue': WHATEVER THE INPUT: true; the input reads as it did. -/
def weakTrueSpec : ChangeSpec := { name := "weakTrue", fn := fun _ => fun
  | [d1, d2, d3] => { results := [.lit (.bool true)], args := [d1, d2, d3] }
  | _ => none }
def weakTrueRow : OpenClaim := { program := "ytiogdefiokmmkaa", sum := "ea40271366d999766a0a0b464ef7e7b9471d85649a00b3545bc95efdeed26dd8", func := "tenon/tenonlaw12.WeakTrue", spec := "weakTrue", apart := false }
def WeakTrueSaid : Prop := weakTrueRow.holds Try.pinned (OpenSpec.ofChange weakTrueSpec)

/-- ITS FALSE NEIGHBOUR: 'it returns false'. Refute it at one input. -/
def weakTrueWrong : ChangeSpec := { name := "weakTrue", fn := fun _ => fun
  | [d1, d2, d3] => { results := [.lit (.bool false)], args := [d1, d2, d3] }
  | _ => none }
def WeakTrueWrongFalsely : Prop := weakTrueRow.holds Try.pinned (OpenSpec.ofChange weakTrueWrong)

/-- 'tenonlaw12.WeakTells': WHATEVER THE INPUT: true; the input reads as it did. -/
def weakTellsSpec : ChangeSpec := { name := "weakTells", fn := fun _ => fun
  | [d1, d2] => { results := [.lit (.bool true)], args := [d1, d2] }
  | _ => none }
def weakTellsRow : OpenClaim := { program := "ytiogdefiokmmkaa", sum := "ea40271366d999766a0a0b464ef7e7b9471d85649a00b3545bc95efdeed26dd8", func := "tenon/tenonlaw12.WeakTells", spec := "weakTells", unfollowed := true, recurses := true, apart := false }
def WeakTellsSaid : Prop := weakTellsRow.holds Try.pinned (OpenSpec.ofChange weakTellsSpec)

/-- ITS FALSE NEIGHBOUR: 'it returns false'. Refute it at one input. -/
def weakTellsWrong : ChangeSpec := { name := "weakTells", fn := fun _ => fun
  | [d1, d2] => { results := [.lit (.bool false)], args := [d1, d2] }
  | _ => none }
def WeakTellsWrongFalsely : Prop := weakTellsRow.holds Try.pinned (OpenSpec.ofChange weakTellsWrong)

/-- 'tenonlaw12.WeakEnds': WHATEVER THE INPUT: true; the input reads as it did. -/
def weakEndsSpec : ChangeSpec := { name := "weakEnds", fn := fun _ => fun
  | [d1, d2] => { results := [.lit (.bool true)], args := [d1, d2] }
  | _ => none }
def weakEndsRow : OpenClaim := { program := "ytiogdefiokmmkaa", sum := "ea40271366d999766a0a0b464ef7e7b9471d85649a00b3545bc95efdeed26dd8", func := "tenon/tenonlaw12.WeakEnds", spec := "weakEnds", unfollowed := true, recurses := true, apart := false }
def WeakEndsSaid : Prop := weakEndsRow.holds Try.pinned (OpenSpec.ofChange weakEndsSpec)

/-- ITS FALSE NEIGHBOUR: 'it returns false'. Refute it at one input. -/
def weakEndsWrong : ChangeSpec := { name := "weakEnds", fn := fun _ => fun
  | [d1, d2] => { results := [.lit (.bool false)], args := [d1, d2] }
  | _ => none }
def WeakEndsWrongFalsely : Prop := weakEndsRow.holds Try.pinned (OpenSpec.ofChange weakEndsWrong)

/-- 'tenonlaw12.WeakNil': WHATEVER THE INPUT: true; the input reads as it did. -/
def weakNilSpec : ChangeSpec := { name := "weakNil", fn := fun _ => fun
  | [d1, d2] => { results := [.lit (.bool true)], args := [d1, d2] }
  | _ => none }
def weakNilRow : OpenClaim := { program := "ytiogdefiokmmkaa", sum := "ea40271366d999766a0a0b464ef7e7b9471d85649a00b3545bc95efdeed26dd8", func := "tenon/tenonlaw12.WeakNil", spec := "weakNil", unfollowed := true, recurses := true, apart := false }
def WeakNilSaid : Prop := weakNilRow.holds Try.pinned (OpenSpec.ofChange weakNilSpec)

/-- ITS FALSE NEIGHBOUR: 'it returns false'. Refute it at one input. -/
def weakNilWrong : ChangeSpec := { name := "weakNil", fn := fun _ => fun
  | [d1, d2] => { results := [.lit (.bool false)], args := [d1, d2] }
  | _ => none }
def WeakNilWrongFalsely : Prop := weakNilRow.holds Try.pinned (OpenSpec.ofChange weakNilWrong)

/- THE SECOND FORM. 'bulk': how many values and letters a reading holds, each counted each time it is reached (what is shared counts as often as it is met; a slice's spare places count too). A statement '..UptoSaid' is the law's where the arguments, and the package variables that the reading takes, are together of bulk at most 1048576: NARROWER than '..Said'. Prove '..Said' where nothing that the law and all that it calls make is longer than what came in: it says more and counts as full. Else prove '..UptoSaid'. A law counts once. -/
mutual
def uptoBulk {H : Type} : DataW H → Nat
  | .lit (.string bytes) => bytes.length + 1
  | .lit _ => 1
  | .nil => 1
  | .ptr d => uptoBulk d + 1
  | .slice elems spare => uptoBulkAll elems + uptoBulkAll spare + 1
  | .agg parts => uptoBulkAll parts + 1
  | .iface _ d => uptoBulk d + 1
  | .map entries => uptoBulkEntries entries + 1
  | .held _ => 1
def uptoBulkAll {H : Type} : List (DataW H) → Nat
  | [] => 0
  | d :: r => uptoBulk d + uptoBulkAll r
def uptoBulkEntries {H : Type} : List (Lit × DataW H) → Nat
  | [] => 0
  | x :: r => uptoBulkEntry x + uptoBulkEntries r
def uptoBulkEntry {H : Type} : Lit × DataW H → Nat
  | (.string bytes, d) => bytes.length + uptoBulk d + 1
  | (_, d) => uptoBulk d + 1
 end
def uptoSmall : (H : Type) → List (DataW H) → Bool := fun _ ds => decide (uptoBulkAll ds ≤ 1048576)
def OpenSpec.upto (s : _root_.Go.ChangeSpec) : _root_.Go.OpenSpec := { _root_.Go.OpenSpec.ofChange s with cond := some uptoSmall }

/-- 'tenonlaw12.WeakPlays', WHERE WHAT IT READS IS OF BULK AT MOST 1048576: true; the input reads as it did. -/
def weakPlaysUptoRow : OpenClaim := { program := "ytiogdefiokmmkaa", sum := "ea40271366d999766a0a0b464ef7e7b9471d85649a00b3545bc95efdeed26dd8", func := "tenon/tenonlaw12.WeakPlays", spec := "weakPlays", apart := false, narrowed := true }
def WeakPlaysUptoSaid : Prop := weakPlaysUptoRow.holds Try.pinned (OpenSpec.upto weakPlaysSpec)

/-- 'tenonlaw12.WeakTrue', WHERE WHAT IT READS IS OF BULK AT MOST 1048576: true; the input reads as it did. -/
def weakTrueUptoRow : OpenClaim := { program := "ytiogdefiokmmkaa", sum := "ea40271366d999766a0a0b464ef7e7b9471d85649a00b3545bc95efdeed26dd8", func := "tenon/tenonlaw12.WeakTrue", spec := "weakTrue", apart := false, narrowed := true }
def WeakTrueUptoSaid : Prop := weakTrueUptoRow.holds Try.pinned (OpenSpec.upto weakTrueSpec)

/-- 'tenonlaw12.WeakTells', WHERE WHAT IT READS IS OF BULK AT MOST 1048576: true; the input reads as it did. -/
def weakTellsUptoRow : OpenClaim := { program := "ytiogdefiokmmkaa", sum := "ea40271366d999766a0a0b464ef7e7b9471d85649a00b3545bc95efdeed26dd8", func := "tenon/tenonlaw12.WeakTells", spec := "weakTells", unfollowed := true, recurses := true, apart := false, narrowed := true }
def WeakTellsUptoSaid : Prop := weakTellsUptoRow.holds Try.pinned (OpenSpec.upto weakTellsSpec)

/-- 'tenonlaw12.WeakEnds', WHERE WHAT IT READS IS OF BULK AT MOST 1048576: true; the input reads as it did. -/
def weakEndsUptoRow : OpenClaim := { program := "ytiogdefiokmmkaa", sum := "ea40271366d999766a0a0b464ef7e7b9471d85649a00b3545bc95efdeed26dd8", func := "tenon/tenonlaw12.WeakEnds", spec := "weakEnds", unfollowed := true, recurses := true, apart := false, narrowed := true }
def WeakEndsUptoSaid : Prop := weakEndsUptoRow.holds Try.pinned (OpenSpec.upto weakEndsSpec)

/-- 'tenonlaw12.WeakNil', WHERE WHAT IT READS IS OF BULK AT MOST 1048576: true; the input reads as it did. -/
def weakNilUptoRow : OpenClaim := { program := "ytiogdefiokmmkaa", sum := "ea40271366d999766a0a0b464ef7e7b9471d85649a00b3545bc95efdeed26dd8", func := "tenon/tenonlaw12.WeakNil", spec := "weakNil", unfollowed := true, recurses := true, apart := false, narrowed := true }
def WeakNilUptoSaid : Prop := weakNilUptoRow.holds Try.pinned (OpenSpec.upto weakNilSpec)

end Rows
end Go.Proofs.Ytiogdefiokmmkaa
