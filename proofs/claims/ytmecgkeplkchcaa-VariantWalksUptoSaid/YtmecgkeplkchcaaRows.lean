/-
  NARROWER THAN 'FOR EVERY INPUT', by the rows' own cells (each row's printed sentence says how): VariantChecks: loops · VariantEncodes: loops · VariantBack: loops · VariantWalks: loops · VariantSame: loops.
  DERIVED. THE GIVEN ROWS OF THIS SEAT. 6 by the template 'for every input the law returns true; each argument reads behind the call as it read before'; 0 by the template 'total and deterministic' (their statements: YtmecgkeplkchcaaTotals.lean).
  GIVEN WITH THE SEED: the statements are not yours to turn. If you find one false, say at which input.
  Laid BY PROGRAM, IN A SANDBOX (cutbox-rows.mjs): the forced cells as the released guide's own fill.sh prints them over the translation cbcb593cc7f24ce9… (all of the seat's roots in one cut). By AI agents, Wed Nov 11 2026. No macro, syntax, notation, axiom, sorry.
-/
import Derived.Test.YtmecgkeplkchcaaChecked
import GoSem.Claim
import GoSem.ClaimJoined
import GoSem.ClaimMapViews
import Derived.JoinedTies
import Derived.KernelRfl
namespace Go.Proofs.Ytmecgkeplkchcaa
/- THE CELL 'sum', in the pinned program and in every row, IS THE sha256 OF THE DUMP (.gsa) THAT YtmecgkeplkchcaaProg.lean LOADS. Nothing in Lean hashes anything: it is a label: what it is worth is what the hold of that sum in a sandbox is worth. -/
noncomputable def Try.pinned : Pinned := { name := "ytmecgkeplkchcaa", sum := "cbcb593cc7f24ce9aecffccbc7d41d9f234c52d9ce75fe7003132f3c76b1805f", checked := Try.checked }
namespace Rows
def none {H : Type} : Left H := { results := [], args := [] }

/-- 'tenonlaw06.VariantChecks': WHATEVER THE INPUT: true; the input reads as it did. -/
def variantChecksSpec : ChangeSpec := { name := "variantChecks", fn := fun _ => fun
  | [d] => { results := [.lit (.bool true)], args := [d] }
  | _ => none }
def variantChecksRow : OpenClaim := { program := "ytmecgkeplkchcaa", sum := "cbcb593cc7f24ce9aecffccbc7d41d9f234c52d9ce75fe7003132f3c76b1805f", func := "tenon/tenonlaw06.VariantChecks", spec := "variantChecks", unfollowed := true, recurses := true, loops := true, apart := false }
def VariantChecksSaid : Prop := variantChecksRow.holds Try.pinned (OpenSpec.ofChange variantChecksSpec)

/-- ITS FALSE NEIGHBOUR: 'it returns false'. Refute it at one input. -/
def variantChecksWrong : ChangeSpec := { name := "variantChecks", fn := fun _ => fun
  | [d] => { results := [.lit (.bool false)], args := [d] }
  | _ => none }
def VariantChecksWrongFalsely : Prop := variantChecksRow.holds Try.pinned (OpenSpec.ofChange variantChecksWrong)

/-- 'tenonlaw06.VariantEncodes': WHATEVER THE INPUT: true; the input reads as it did. -/
def variantEncodesSpec : ChangeSpec := { name := "variantEncodes", fn := fun _ => fun
  | [d] => { results := [.lit (.bool true)], args := [d] }
  | _ => none }
def variantEncodesRow : OpenClaim := { program := "ytmecgkeplkchcaa", sum := "cbcb593cc7f24ce9aecffccbc7d41d9f234c52d9ce75fe7003132f3c76b1805f", func := "tenon/tenonlaw06.VariantEncodes", spec := "variantEncodes", unfollowed := true, recurses := true, loops := true, apart := false }
def VariantEncodesSaid : Prop := variantEncodesRow.holds Try.pinned (OpenSpec.ofChange variantEncodesSpec)

/-- ITS FALSE NEIGHBOUR: 'it returns false'. Refute it at one input. -/
def variantEncodesWrong : ChangeSpec := { name := "variantEncodes", fn := fun _ => fun
  | [d] => { results := [.lit (.bool false)], args := [d] }
  | _ => none }
def VariantEncodesWrongFalsely : Prop := variantEncodesRow.holds Try.pinned (OpenSpec.ofChange variantEncodesWrong)

/-- 'tenonlaw06.VariantDecodes': WHATEVER THE INPUT: true; the input reads as it did. -/
def variantDecodesSpec : ChangeSpec := { name := "variantDecodes", fn := fun _ => fun
  | [d] => { results := [.lit (.bool true)], args := [d] }
  | _ => none }
def variantDecodesRow : OpenClaim := { program := "ytmecgkeplkchcaa", sum := "cbcb593cc7f24ce9aecffccbc7d41d9f234c52d9ce75fe7003132f3c76b1805f", func := "tenon/tenonlaw06.VariantDecodes", spec := "variantDecodes", unfollowed := true, recurses := true, apart := false }
def VariantDecodesSaid : Prop := variantDecodesRow.holds Try.pinned (OpenSpec.ofChange variantDecodesSpec)

/-- ITS FALSE NEIGHBOUR: 'it returns false'. Refute it at one input. -/
def variantDecodesWrong : ChangeSpec := { name := "variantDecodes", fn := fun _ => fun
  | [d] => { results := [.lit (.bool false)], args := [d] }
  | _ => none }
def VariantDecodesWrongFalsely : Prop := variantDecodesRow.holds Try.pinned (OpenSpec.ofChange variantDecodesWrong)

/-- 'tenonlaw06.VariantBack': WHATEVER THE INPUT: true; the input reads as it did. -/
def variantBackSpec : ChangeSpec := { name := "variantBack", fn := fun _ => fun
  | [d1, d2] => { results := [.lit (.bool true)], args := [d1, d2] }
  | _ => none }
def variantBackRow : OpenClaim := { program := "ytmecgkeplkchcaa", sum := "cbcb593cc7f24ce9aecffccbc7d41d9f234c52d9ce75fe7003132f3c76b1805f", func := "tenon/tenonlaw06.VariantBack", spec := "variantBack", unfollowed := true, recurses := true, loops := true, apart := false }
def VariantBackSaid : Prop := variantBackRow.holds Try.pinned (OpenSpec.ofChange variantBackSpec)

/-- ITS FALSE NEIGHBOUR: 'it returns false'. Refute it at one input. -/
def variantBackWrong : ChangeSpec := { name := "variantBack", fn := fun _ => fun
  | [d1, d2] => { results := [.lit (.bool false)], args := [d1, d2] }
  | _ => none }
def VariantBackWrongFalsely : Prop := variantBackRow.holds Try.pinned (OpenSpec.ofChange variantBackWrong)

/-- 'tenonlaw06.VariantWalks': WHATEVER THE INPUT: true; the input reads as it did. -/
def variantWalksSpec : ChangeSpec := { name := "variantWalks", fn := fun _ => fun
  | [d1, d2] => { results := [.lit (.bool true)], args := [d1, d2] }
  | _ => none }
def variantWalksRow : OpenClaim := { program := "ytmecgkeplkchcaa", sum := "cbcb593cc7f24ce9aecffccbc7d41d9f234c52d9ce75fe7003132f3c76b1805f", func := "tenon/tenonlaw06.VariantWalks", spec := "variantWalks", unfollowed := true, recurses := true, loops := true, apart := false }
def VariantWalksSaid : Prop := variantWalksRow.holds Try.pinned (OpenSpec.ofChange variantWalksSpec)

/-- ITS FALSE NEIGHBOUR: 'it returns false'. Refute it at one input. -/
def variantWalksWrong : ChangeSpec := { name := "variantWalks", fn := fun _ => fun
  | [d1, d2] => { results := [.lit (.bool false)], args := [d1, d2] }
  | _ => none }
def VariantWalksWrongFalsely : Prop := variantWalksRow.holds Try.pinned (OpenSpec.ofChange variantWalksWrong)

/-- 'tenonlaw06.VariantSame': WHATEVER THE INPUT: true; the input reads as it did. -/
def variantSameSpec : ChangeSpec := { name := "variantSame", fn := fun _ => fun
  | [d1, d2] => { results := [.lit (.bool true)], args := [d1, d2] }
  | _ => none }
def variantSameRow : OpenClaim := { program := "ytmecgkeplkchcaa", sum := "cbcb593cc7f24ce9aecffccbc7d41d9f234c52d9ce75fe7003132f3c76b1805f", func := "tenon/tenonlaw06.VariantSame", spec := "variantSame", unfollowed := true, recurses := true, loops := true, apart := false }
def VariantSameSaid : Prop := variantSameRow.holds Try.pinned (OpenSpec.ofChange variantSameSpec)

/-- ITS FALSE NEIGHBOUR: 'it returns false'. Refute it at one input. -/
def variantSameWrong : ChangeSpec := { name := "variantSame", fn := fun _ => fun
  | [d1, d2] => { results := [.lit (.bool false)], args := [d1, d2] }
  | _ => none }
def VariantSameWrongFalsely : Prop := variantSameRow.holds Try.pinned (OpenSpec.ofChange variantSameWrong)

/- THE SECOND FORM. 'bulk': how many values and letters a reading holds, each counted each time it is reached (what is shared counts as often as it is met; a slice's spare places count too). A statement '..UptoSaid' is the law's where the arguments, and the package variables that the reading takes, are together of bulk at most 1048576: NARROWER than '..Said'. Prove '..Said' where nothing that the law and all that it calls make is longer than what came in: it says more and counts as full. Else prove '..UptoSaid'. A law counts once. -/
mutual
def uptoBulk {H : Type} : DataW H → Nat
  | .lit (.string bytes) => bytes.length + 1
  | .lit _ => 1
  | .nil => 1
  | .ptr d => uptoBulk d + 1
  | .slice elems spare => uptoBulkAll elems + uptoBulkAll spare + 1
  | .agg parts => uptoBulkAll parts + 1
  | .iface _ d => uptoBulk d + 1
  | .map entries => uptoBulkEntries entries + 1
  | .held _ => 1
def uptoBulkAll {H : Type} : List (DataW H) → Nat
  | [] => 0
  | d :: r => uptoBulk d + uptoBulkAll r
def uptoBulkEntries {H : Type} : List (Lit × DataW H) → Nat
  | [] => 0
  | x :: r => uptoBulkEntry x + uptoBulkEntries r
def uptoBulkEntry {H : Type} : Lit × DataW H → Nat
  | (.string bytes, d) => bytes.length + uptoBulk d + 1
  | (_, d) => uptoBulk d + 1
 end
def uptoSmall : (H : Type) → List (DataW H) → Bool := fun _ ds => decide (uptoBulkAll ds ≤ 1048576)
def OpenSpec.upto (s : _root_.Go.ChangeSpec) : _root_.Go.OpenSpec := { _root_.Go.OpenSpec.ofChange s with cond := some uptoSmall }

/-- 'tenonlaw06.VariantChecks', WHERE WHAT IT READS IS OF BULK AT MOST 1048576: true; the input reads as it did. -/
def variantChecksUptoRow : OpenClaim := { program := "ytmecgkeplkchcaa", sum := "cbcb593cc7f24ce9aecffccbc7d41d9f234c52d9ce75fe7003132f3c76b1805f", func := "tenon/tenonlaw06.VariantChecks", spec := "variantChecks", unfollowed := true, recurses := true, loops := true, apart := false, narrowed := true }
def VariantChecksUptoSaid : Prop := variantChecksUptoRow.holds Try.pinned (OpenSpec.upto variantChecksSpec)

/-- 'tenonlaw06.VariantEncodes', WHERE WHAT IT READS IS OF BULK AT MOST 1048576: true; the input reads as it did. -/
def variantEncodesUptoRow : OpenClaim := { program := "ytmecgkeplkchcaa", sum := "cbcb593cc7f24ce9aecffccbc7d41d9f234c52d9ce75fe7003132f3c76b1805f", func := "tenon/tenonlaw06.VariantEncodes", spec := "variantEncodes", unfollowed := true, recurses := true, loops := true, apart := false, narrowed := true }
def VariantEncodesUptoSaid : Prop := variantEncodesUptoRow.holds Try.pinned (OpenSpec.upto variantEncodesSpec)

/-- 'tenonlaw06.VariantDecodes', WHERE WHAT IT READS IS OF BULK AT MOST 1048576: true; the input reads as it did. -/
def variantDecodesUptoRow : OpenClaim := { program := "ytmecgkeplkchcaa", sum := "cbcb593cc7f24ce9aecffccbc7d41d9f234c52d9ce75fe7003132f3c76b1805f", func := "tenon/tenonlaw06.VariantDecodes", spec := "variantDecodes", unfollowed := true, recurses := true, apart := false, narrowed := true }
def VariantDecodesUptoSaid : Prop := variantDecodesUptoRow.holds Try.pinned (OpenSpec.upto variantDecodesSpec)

/-- 'tenonlaw06.VariantBack', WHERE WHAT IT READS IS OF BULK AT MOST 1048576: true; the input reads as it did. -/
def variantBackUptoRow : OpenClaim := { program := "ytmecgkeplkchcaa", sum := "cbcb593cc7f24ce9aecffccbc7d41d9f234c52d9ce75fe7003132f3c76b1805f", func := "tenon/tenonlaw06.VariantBack", spec := "variantBack", unfollowed := true, recurses := true, loops := true, apart := false, narrowed := true }
def VariantBackUptoSaid : Prop := variantBackUptoRow.holds Try.pinned (OpenSpec.upto variantBackSpec)

/-- 'tenonlaw06.VariantWalks', WHERE WHAT IT READS IS OF BULK AT MOST 1048576: true; the input reads as it did. -/
def variantWalksUptoRow : OpenClaim := { program := "ytmecgkeplkchcaa", sum := "cbcb593cc7f24ce9aecffccbc7d41d9f234c52d9ce75fe7003132f3c76b1805f", func := "tenon/tenonlaw06.VariantWalks", spec := "variantWalks", unfollowed := true, recurses := true, loops := true, apart := false, narrowed := true }
def VariantWalksUptoSaid : Prop := variantWalksUptoRow.holds Try.pinned (OpenSpec.upto variantWalksSpec)

/-- 'tenonlaw06.VariantSame', WHERE WHAT IT READS IS OF BULK AT MOST 1048576: true; the input reads as it did. -/
def variantSameUptoRow : OpenClaim := { program := "ytmecgkeplkchcaa", sum := "cbcb593cc7f24ce9aecffccbc7d41d9f234c52d9ce75fe7003132f3c76b1805f", func := "tenon/tenonlaw06.VariantSame", spec := "variantSame", unfollowed := true, recurses := true, loops := true, apart := false, narrowed := true }
def VariantSameUptoSaid : Prop := variantSameUptoRow.holds Try.pinned (OpenSpec.upto variantSameSpec)

end Rows
end Go.Proofs.Ytmecgkeplkchcaa
